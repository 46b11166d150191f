/- SumShifts walked. -/
import Derived.Test.YtibjllfabalfjaaA
import Derived.Test.YtibjllfabalfjaaY
namespace Go.Proofs.Ytibjllfabalfjaa
open Go.RowKit Go.BigFrame
set_option maxHeartbeats 1000000 in
theorem refShift_out (s : BitVec 32) (n : Int) (hn : n < 0 ∨ 1048576 < n) (w : World) : Calls Try.prog 16 #[uv s, .int .i64 n] w fun e w' => e = .returned (uv 0#32) ∧ w' = w := by
  by_cases h0 : n < 0
  · go_enter Try.func16, Try.ntmps16
    go_wp2_with fail
    exact bodyPost_ret (v := uv 0#32) (by simp [results, Try.results16, go_sem]; rfl) rfl ⟨rfl, rfl⟩
  · have h1 : 1048576 < n := by omega
    go_enter Try.func16, Try.ntmps16
    go_wp2_with fail
    exact bodyPost_ret (v := uv 0#32) (by simp [results, Try.results16, go_sem]; rfl) rfl ⟨rfl, rfl⟩
set_option maxRecDepth 100000 in
set_option maxHeartbeats 2000000 in
theorem shifts_any (s : BitVec 32) (n : Int) (w : World) : Calls Try.prog 6 #[uv s, .int .i64 n] w fun e w' => e = .returned (.bool true) ∧ Keep (fun _ => False) w w' := by
  go_enter Try.func6, Try.ntmps6
  by_cases hA : 300 < n
  · by_cases hB : n ≤ 1048576
    · go_wp2_with fail
      refine (alive_does _).mono ?_
      rintro e w2 ⟨rfl, hk⟩
      have HK := Lib.hid hk
      clear hk
      go_wp2_with fail
      exact bodyPost_ret (v := .bool true) (by simp [results, Try.results6, go_sem]) rfl ⟨rfl, HK⟩
    · have ho : n < 0 ∨ 1048576 < n := by omega
      have HO := Lib.hid ho
      clear ho
      go_wp2_with fail
      refine (alive_does _).mono ?_
      rintro e w2 ⟨rfl, hk⟩
      have HK := Lib.hid hk
      clear hk
      go_wp2_with fail
      refine (shift_out s n HO _).mono ?_
      rintro e w3 ⟨rfl, rfl⟩
      go_wp2_with fail
      refine (refShift_out s n HO _).mono ?_
      rintro e w4 ⟨rfl, rfl⟩
      go_wp2_with fail
      exact bodyPost_ret (v := .bool true) (by simp [results, Try.results6, go_sem]) rfl ⟨rfl, HK⟩
  · by_cases h0 : n < 0
    · have HO : Hid (n < 0 ∨ 1048576 < n) := Or.inl h0
      go_wp2_with fail
      refine (alive_does _).mono ?_
      rintro e w2 ⟨rfl, hk⟩
      have HK := Lib.hid hk
      clear hk
      go_wp2_with fail
      refine (shift_out s n HO _).mono ?_
      rintro e w3 ⟨rfl, rfl⟩
      go_wp2_with fail
      refine (refShift_out s n HO _).mono ?_
      rintro e w4 ⟨rfl, rfl⟩
      go_wp2_with fail
      exact bodyPost_ret (v := .bool true) (by simp [results, Try.results6, go_sem]) rfl ⟨rfl, HK⟩
    · obtain ⟨m, rfl⟩ : ∃ m : Nat, n = m := ⟨n.toNat, by omega⟩
      go_wp2_with fail
      refine (alive_does _).mono ?_
      rintro e w2 ⟨rfl, hk⟩
      have HK := Lib.hid hk
      clear hk
      go_wp2_with fail
      refine (shift_in s m (by omega) _).mono ?_
      rintro e w3 ⟨rfl, rfl⟩
      go_wp2_with fail
      refine (refShift_does s m (by omega) _).mono ?_
      rintro e w4 ⟨rfl, hk⟩
      have HK4 : Hid (Keep (fun _ => False) w w4) := Keep.trans HK hk (fun _ _ h => h)
      clear hk HK
      go_wp2_with fail
      exact bodyPost_ret (v := .bool true) (by simp [results, Try.results6, go_sem]) rfl ⟨rfl, HK4⟩
end Go.Proofs.Ytibjllfabalfjaa
