/- SumBytes walked. -/
import Derived.Test.YtibjllfabalfjaaD
namespace Go.Proofs.Ytibjllfabalfjaa
open Go.RowKit Go.BigFrame
set_option maxRecDepth 100000 in
set_option maxHeartbeats 4000000 in
theorem bytes_any (s : BitVec 32) (A : Option Addr) (c : Nat) (b : List Nat) (w : World) (hb : BytesAt w A b) (hn : A = none → b.length = 0 ∧ c = 0) :
    Calls Try.prog 8 #[uv s, .slice A b.length c] w fun e w' => e = .returned (.bool true) ∧ Keep (fun _ => False) w w' := by
  have HB := Lib.hid hb
  have HN := Lib.hid hn
  clear hb hn
  obtain ⟨i0, hi, hz0, hz1, hz2⟩ := info_parts info_byte
  go_enter Try.func8, Try.ntmps8
  by_cases hla : 100 < b.length
  · go_wp2_with fail
    refine (alive_does _).mono ?_
    rintro e w2 ⟨rfl, hk⟩
    have HK := Lib.hid hk
    clear hk
    go_wp2_with fail
    exact bodyPost_ret (v := .bool true) (by simp [results, Try.results8, go_sem]) rfl ⟨rfl, HK⟩
  go_wp2_with fail
  refine (bytes_does s _).mono ?_
  rintro e w2 ⟨rfl, hk⟩
  unfold fourA
  have HK2 := Lib.hid hk
  clear hk
  have hB := Blk.new w2 38 (fourA s)
  have HK3 : Hid (Keep (fun _ => False) w (w2.alloc (.cells (fourA s) 38))) := Keep.alloc HK2 _
  have HR : Hid (ReadsAs (w2.alloc (.cells (fourA s) 38)) (some ⟨w2.heap.size, 0, none⟩) ((bytes4 s).map bv)) := by
    intro i u hu
    refine ⟨_, _, rfl, ?_⟩
    rw [Nat.zero_add, hB.cell]
    match i, hu with
    | 0, hu => exact hu
    | 1, hu => exact hu
    | 2, hu => exact hu
    | 3, hu => exact hu
  have HR2 : Hid (ReadsAs (w2.alloc (.cells (fourA s) 38)) A (b.map bv)) := (BytesAt.keep HB HK3).1
  have HL := Lib.hid (show (b.map bv).length = b.length from List.length_map _)
  have HO := Lib.hid (bytes_oneCell b)
  clear hB HK2
  go_wp2_with (at_builtin; go_must (refine wpList_append_full (w2.alloc (.cells (fourA s) 38)) rfl _ _ _ rfl 5 i0 (.int .u8 0) 1 Try.underlying22 hi hz0 hz1 hz2 rfl w2.heap.size 0 4 ((bytes4 s).map bv) rfl rfl HR.out A b.length c (b.map bv) rfl HL.out HR2.out HN.out HO.out (by omega) (by omega) ?_))
  intro A' c' w4 hne hF hK
  rw [← List.map_append] at hF
  have HK4 : Hid (Keep (fun _ => False) w w4) := Keep.trans HK3 hK (fun _ _ h => h)
  have HF : Hid (BytesAt w4 A' (bytes4 s ++ b)) := ⟨hF, fun x hx => by
      rcases List.mem_append.1 hx with h | h
      · exact bytes4_lt s x h
      · exact (show BytesAt w A b from HB).2 x h⟩
  clear hF hK HR HR2 HL HO HK3 hne
  go_wp2_with fail
  have hrd := read_does A' c' _ w4 HF (by simp [bytes4])
  rw [le_bytes4, show (bytes4 s ++ b).length = 4 + b.length by simp [bytes4]; omega] at hrd
  refine hrd.mono ?_
  clear hrd
  rintro e w5 ⟨rfl, rfl⟩
  by_cases hfew : b.length < 4
  · go_wp2_with fail
    refine (read_few A b.length c hfew _).mono ?_
    rintro e w6 ⟨rfl, rfl⟩
    go_wp2_with fail
    refine (alive_does _).mono ?_
    rintro e w7 ⟨rfl, hk⟩
    have HK7 : Hid (Keep (fun _ => False) w w7) := Keep.trans HK4 hk (fun _ _ h => h)
    clear hk
    go_wp2_with fail
    exact bodyPost_ret (v := .bool true) (by simp [results, Try.results8, go_sem]; rfl) rfl ⟨rfl, HK7⟩
  · go_wp2_with fail
    refine (read_does A c b _ (BytesAt.keep HB HK4) (by omega)).mono ?_
    rintro e w6 ⟨rfl, rfl⟩
    obtain ⟨x0, x1, x2, x3, r, hbe⟩ : ∃ x0 x1 x2 x3 r, b = x0 :: x1 :: x2 :: x3 :: r := by
      match b, hfew with
      | [], h => simp at h
      | [_], h => simp at h
      | [_, _], h => simp at h
      | [_, _, _], h => simp at h
      | x0 :: x1 :: x2 :: x3 :: r, _ => exact ⟨_, _, _, _, _, rfl⟩
    have hall := (show BytesAt w A b from HB).2
    have l0 : x0 < 256 := hall x0 (by simp [hbe])
    have l1 : x1 < 256 := hall x1 (by simp [hbe])
    have l2 : x2 < 256 := hall x2 (by simp [hbe])
    have l3 : x3 < 256 := hall x3 (by simp [hbe])
    have hfa : fourA (BitVec.ofNat 32 (le (b.take 4))) = #[bv x0, bv x1, bv x2, bv x3] := by rw [hbe]; exact fourA_le x0 x1 x2 x3 r l0 l1 l2 l3
    have hat : BytesAt w6 A b := BytesAt.keep HB HK4
    obtain ⟨g, o, rfl, k00, _⟩ := hat.get (k := 0) (by rw [hbe]; simp)
    have k1 : w6.cell? ⟨g, o + 1, none⟩ = some (bv x1) := by
      obtain ⟨g', o', e, h, _⟩ := hat.get (k := 1) (by rw [hbe]; simp)
      cases e
      simpa [hbe] using h
    have k2 : w6.cell? ⟨g, o + 2, none⟩ = some (bv x2) := by
      obtain ⟨g', o', e, h, _⟩ := hat.get (k := 2) (by rw [hbe]; simp)
      cases e
      simpa [hbe] using h
    have k3 : w6.cell? ⟨g, o + 3, none⟩ = some (bv x3) := by
      obtain ⟨g', o', e, h, _⟩ := hat.get (k := 3) (by rw [hbe]; simp)
      cases e
      simpa [hbe] using h
    have k0 : w6.cell? ⟨g, o, none⟩ = some (bv x0) := by simpa [hbe] using k00
    have later {i : Nat} {v : Value} (h : w6.cell? ⟨g, i, none⟩ = some v) (d : Later w6) : d.w.cell? ⟨g, i, none⟩ = some v :=
      (Keep.cell d.on (World.block_lt_of_cell? w6 _ h) (fun h => h)).trans h
    have j0 := later k0
    have j1 := later k1
    have j2 := later k2
    have j3 := later k3
    have q0 := eq38 x0 x1 x2 x3 (by omega) (by omega) (by omega) (by omega)
    have hlen : 4 ≤ b.length := by omega
    clear k00 k0 k1 k2 k3 later hat hall HB HN HF
    generalize BitVec.ofNat 32 (le (b.take 4)) = y at *
    go_wp2_with fail
    have cb : ∀ d : Later w6, Calls Try.prog 17 #[uv y] d.w fun e w' => e = .returned (.agg #[.int .u8 x0, .int .u8 x1, .int .u8 x2, .int .u8 x3]) ∧ ∃ d' : Later w6, w' = d'.w := by
      intro d
      have := bytes_in y d.on
      rw [hfa] at this
      exact Calls.later this
    refine wp_region_later (by kernel_rfl) (by kernel_rfl) ?_
    repeat (go_big_quiet_step ((first
      | (go_at_call 10; exact Calls.later ((alive_does _).mono fun _ _ ⟨he, hk⟩ => ⟨he, Keep.trans (Later.on _) hk (fun _ _ h => h)⟩))
      | (go_at_call 17; exact cb _))))
    refine wpQuiet_nil ?_
    intro w' hw'
    go_wp2_with fail
    exact bodyPost_ret (v := .bool true) (by simp [results, Try.results8, go_sem]) rfl ⟨rfl, Keep.trans HK4 hw' (fun _ _ h => h)⟩
end Go.Proofs.Ytibjllfabalfjaa
