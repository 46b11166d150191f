/- SumLinear walked. -/
import Derived.Test.YtibjllfabalfjaaY
import Derived.Sort.AtCall
namespace Go.Proofs.Ytibjllfabalfjaa
open Go.RowKit Go.BigFrame
theorem shift_sum {w0 w : World} (s : BitVec 32) {n m : Nat} (hn : n + m ≤ 1048576) (hk : Onto w0 w) : Calls Try.prog 15 #[uv s, .int .i64 ((n : Int) + (m : Int))] w fun e w' => e = .returned (uv (mx (8 * (n + m)) s)) ∧ Onto w0 w' := by
  have := shift_at s hn hk
  rwa [Int.natCast_add] at this
set_option maxRecDepth 100000 in
set_option maxHeartbeats 2000000 in
theorem linear_any (a b : BitVec 32) (p q : Int) (w : World) :
    Calls Try.prog 7 #[uv a, uv b, .agg #[.int .i64 p, .int .i64 q]] w fun e w' => e = .returned (.bool true) ∧ Keep (fun _ => False) w w' := by
  go_enter Try.func7, Try.ntmps7
  by_cases h0 : p < 0
  · go_wp2_with fail
    refine (alive_does _).mono ?_
    rintro e w2 ⟨rfl, hk⟩
    have HK : Hid (Keep (fun _ => False) w w2) := Keep.trans ((Keep.refl _ w).alloc _) hk (fun _ _ h => h)
    clear hk
    go_wp2_with fail
    exact bodyPost_ret (v := .bool true) (by simp [results, Try.results7, go_sem]) rfl ⟨rfl, HK⟩
  by_cases h1 : q < 0
  · go_wp2_with fail
    refine (alive_does _).mono ?_
    rintro e w2 ⟨rfl, hk⟩
    have HK : Hid (Keep (fun _ => False) w w2) := Keep.trans ((Keep.refl _ w).alloc _) hk (fun _ _ h => h)
    clear hk
    go_wp2_with fail
    exact bodyPost_ret (v := .bool true) (by simp [results, Try.results7, go_sem]) rfl ⟨rfl, HK⟩
  by_cases h2 : 524288 < p
  · go_wp2_with fail
    refine (alive_does _).mono ?_
    rintro e w2 ⟨rfl, hk⟩
    have HK : Hid (Keep (fun _ => False) w w2) := Keep.trans ((Keep.refl _ w).alloc _) hk (fun _ _ h => h)
    clear hk
    go_wp2_with fail
    exact bodyPost_ret (v := .bool true) (by simp [results, Try.results7, go_sem]) rfl ⟨rfl, HK⟩
  by_cases h3 : 524288 < q
  · go_wp2_with fail
    refine (alive_does _).mono ?_
    rintro e w2 ⟨rfl, hk⟩
    have HK : Hid (Keep (fun _ => False) w w2) := Keep.trans ((Keep.refl _ w).alloc _) hk (fun _ _ h => h)
    clear hk
    go_wp2_with fail
    exact bodyPost_ret (v := .bool true) (by simp [results, Try.results7, go_sem]) rfl ⟨rfl, HK⟩
  obtain ⟨n, rfl⟩ : ∃ n : Nat, p = n := ⟨p.toNat, by omega⟩
  obtain ⟨m, rfl⟩ : ∃ n : Nat, q = n := ⟨q.toNat, by omega⟩
  go_wp2_with fail
  have hB := Blk.new w 36 #[.int .i64 n, .int .i64 m]
  have hK := (Keep.refl (fun _ => False) w).alloc (.cells #[.int .i64 n, .int .i64 m] 36)
  generalize w.alloc (.cells #[.int .i64 n, .int .i64 m] 36) = W at *
  have hc0 : ∀ d : Later W, d.w.cell? ⟨w.heap.size, 0, none⟩ = some (.int .i64 n) := fun d => (Keep.cell d.on hB.lt (fun h => h)).trans (hB.cell 0)
  have hc1 : ∀ d : Later W, d.w.cell? ⟨w.heap.size, 1, none⟩ = some (.int .i64 m) := fun d => (Keep.cell d.on hB.lt (fun h => h)).trans (hB.cell 1)
  have HK := Lib.hid hK
  clear hB hK
  have e1 := iv_xor a b
  have e2 : bits .xor .u32 (iv (mx (8 * n) a)) (iv (mx (8 * n) b)) = iv (mx (8 * n) (a ^^^ b)) := by rw [iv_xor, mx_xor]
  have e3 : mx (8 * m) (mx (8 * n) a) = mx (8 * (n + m)) a := by rw [← mx_add]; congr 1; omega
  have hn : n ≤ 524288 := by omega
  have hm : m ≤ 524288 := by omega
  refine wp_region_later (by kernel_rfl) (by kernel_rfl) ?_
  repeat (go_big_quiet_step ((first
    | (go_at_call_has 15 (Value.int .i64 (n + m)); exact Calls.later (shift_sum _ (by omega) (Later.on _)))
    | (go_at_call_has 15 (Value.int .i64 n); exact Calls.later (shift_at _ (by omega) (Later.on _)))
    | (go_at_call_has 15 (Value.int .i64 m); exact Calls.later (shift_at _ (by omega) (Later.on _)))
    | (go_at_call 10; exact Calls.later ((alive_does _).mono fun _ _ ⟨he, hk⟩ => ⟨he, Keep.trans (Later.on _) hk (fun _ _ h => h)⟩)))))
  refine wpQuiet_nil ?_
  intro w' hw'
  go_wp2_with fail
  exact bodyPost_ret (v := .bool true) (by simp [results, Try.results7, go_sem]) rfl ⟨rfl, Keep.trans HK hw' (fun _ _ h => h)⟩
end Go.Proofs.Ytibjllfabalfjaa
