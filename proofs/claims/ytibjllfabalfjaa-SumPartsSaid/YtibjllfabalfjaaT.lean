/- times, Shift and Join walked. -/
import Derived.Test.YtibjllfabalfjaaRows
import Derived.Test.YtibjllfabalfjaaB
import Derived.Test.YtibjllfabalfjaaQ
import Derived.WalkKit
import Derived.WalkSpells
import Derived.WalkLawsBesides
import Derived.Outline
namespace Go.Proofs.Ytibjllfabalfjaa
open Go.RowKit Go.BigFrame
set_option maxHeartbeats 1000000 in
theorem times_does (a : BitVec 32) (m : Nat) (w : World) : Calls Try.prog 23 #[uv a, uv (mx m one)] w fun e w' => e = .returned (uv (mx m a)) ∧ w' = w := by
  go_enter Try.func23, Try.ntmps23
  go_wp2_with fail
  go_loopw [0, 1, 5, 6] (fun x y z i wr => ∃ (k : Nat), k ≤ 32 ∧ i = .int .i64 k ∧ x = uv (a <<< k) ∧ y = uv (mx (m + k) one) ∧ z = uv (mx m (topBits k a)) ∧ wr = w) (fun _ _ _ i _ => 32 - (intOf i).toNat)
  case atStart => 
    refine ⟨0, by omega, rfl, ?_, rfl, ?_, rfl⟩
    · simp
    · rw [topBits_zero, mx_zero]; rfl
  case round =>
    obtain ⟨k, hk, rfl, rfl, rfl, rfl, rfl⟩ := hrel
    by_cases hlt : k < 32
    · have e1 : a <<< k <<< 1 = a <<< (k + 1) := (BitVec.shiftLeft_add _ _ _).symm
      have e2 : mulx (mx (m + k) one) = mx (m + (k + 1)) one := (mx_succ _ _).symm
      have e3 (c : Bool) (hc : (bits .and .u32 (iv (a <<< k)) 2147483648 != 0) = c) : mx m (topBits (k + 1) a) = mx m (topBits k a) ^^^ sel c (mx (m + k) one) := by
        rw [topBits_succ k hlt, mx_xor, sel_mx, ← mx_add, ← hc, iv_test]
      go_wp2_with fail
      go_ways
      · next h2 =>
        have e4 := e3 _ h2
        refine ⟨⟨k + 1, by omega, by push_cast; rfl, ?_, ?_, ?_, trivial⟩, by simp [intOf]; omega⟩
        · rw [iv_shl, e1]
        · rw [iv_mulx, e2]
        · rw [iv_xor, e4]; rfl
      · next h2 =>
        have e4 := e3 _ h2
        refine ⟨⟨k + 1, by omega, by push_cast; rfl, ?_, ?_, ?_, trivial⟩, by simp [intOf]; omega⟩
        · rw [iv_shl, e1]
        · rw [iv_mulx, e2]
        · rw [e4]
          show uv _ = uv (_ ^^^ 0#32)
          rw [BitVec.xor_zero]
    · have : k = 32 := by omega
      subst this
      rw [topBits_all]
      go_wp2_with fail
      exact bodyPost_ret (v := uv (mx m a)) (by simp [results, Try.results23, go_sem]) rfl ⟨rfl, rfl⟩
set_option maxHeartbeats 1000000 in
theorem shift_out (s : BitVec 32) (n : Int) (hn : n < 0 ∨ 1048576 < n) (w : World) : Calls Try.prog 15 #[uv s, .int .i64 n] w fun e w' => e = .returned (uv 0#32) ∧ w' = w := by
  by_cases h0 : n < 0
  · go_enter Try.func15, Try.ntmps15
    go_wp2_with fail
    exact bodyPost_ret (v := uv 0#32) (by simp [results, Try.results15, go_sem]; rfl) rfl ⟨rfl, rfl⟩
  · have h1 : 1048576 < n := by omega
    go_enter Try.func15, Try.ntmps15
    go_wp2_with fail
    exact bodyPost_ret (v := uv 0#32) (by simp [results, Try.results15, go_sem]; rfl) rfl ⟨rfl, rfl⟩
theorem mx8 : uv (mx 8 one) = .int .u32 8388608 := rfl
set_option maxHeartbeats 1000000 in
theorem shift_in (s : BitVec 32) (n : Nat) (hn : n ≤ 1048576) (w : World) : Calls Try.prog 15 #[uv s, .int .i64 n] w fun e w' => e = .returned (uv (mx (8 * n) s)) ∧ w' = w := by
  have h0 : ¬ ((n : Int) < 0) := by omega
  have h1 : ¬ ((1048576 : Int) < n) := by omega
  go_enter Try.func15, Try.ntmps15
  go_wp2_with fail
  go_loopw [0, 1, 5] (fun x y p wr => ∃ (c r k : Nat), r + c * k = n ∧ k ≤ n ∧ y = .int .i64 k ∧ x = uv (mx (8 * r) s) ∧ p = uv (mx (8 * c) one) ∧ wr = w) (fun _ y _ _ => (intOf y).toNat)
  case atStart =>
    exact ⟨1, 0, n, by omega, by omega, rfl, rfl, mx8.symm, rfl⟩
  case round =>
    obtain ⟨c, r, k, he, hk, rfl, rfl, rfl, rfl⟩ := hrel
    by_cases hz : k = 0
    · subst hz
      have : r = n := by omega
      subst this
      go_wp2_with fail
      exact bodyPost_ret (v := uv (mx (8 * r) s)) (by simp [results, Try.results15, go_sem]) rfl ⟨rfl, rfl⟩
    · have hk0 : (0 : Int) < k := by omega
      have hc2 : mx (8 * c) (mx (8 * c) one) = mx (8 * (c + c)) one := by rw [← mx_add]; congr 1; omega
      rcases Nat.mod_two_eq_zero_or_one k with hm | hm
      · have hb : ((k : Int) % 2 == 1) = false := by
          have : (k : Int) % 2 = 0 := by omega
          simp [this]
        go_wp2_with fail
        refine (times_does (mx (8 * c) one) (8 * c) _).mono ?_
        rintro e w2 ⟨rfl, rfl⟩
        go_wp2_with fail
        refine ⟨⟨c + c, r, k / 2, ?_, by omega, by simp, rfl, by (first | rfl | rw [hc2]), trivial⟩, by simp [intOf]; omega⟩
        have h2 : (c + c) * (k / 2) = c * k := by
          rw [← Nat.mul_two, Nat.mul_assoc]
          congr 1
          omega
        omega
      · have hb : ((k : Int) % 2 == 1) = true := by
          have : (k : Int) % 2 = 1 := by omega
          simp [this]
        go_wp2_with fail
        refine (times_does (mx (8 * r) s) (8 * c) _).mono ?_
        rintro e w2 ⟨rfl, rfl⟩
        go_wp2_with fail
        refine (times_does (mx (8 * c) one) (8 * c) _).mono ?_
        rintro e w2 ⟨rfl, rfl⟩
        go_wp2_with fail
        have h3 : mx (8 * c) (mx (8 * r) s) = mx (8 * (r + c)) s := by rw [← mx_add]; congr 1; omega
        refine ⟨⟨c + c, r + c, k / 2, ?_, by omega, by simp, by (first | rfl | rw [h3]), by (first | rfl | rw [hc2]), trivial⟩, by simp [intOf]; omega⟩
        have h2 : (c + c) * (k / 2) + c = c * k := by
          have : c * k = c * (2 * (k / 2) + 1) := by congr 1; omega
          rw [this, Nat.mul_add, ← Nat.mul_two, Nat.mul_assoc]
          omega
        omega
set_option maxHeartbeats 1000000 in
theorem join_in (a b : BitVec 32) (n : Nat) (hn : n ≤ 1048576) (w : World) : Calls Try.prog 14 #[uv a, uv b, .int .i64 n] w fun e w' => e = .returned (uv (mx (8 * n) a ^^^ b)) ∧ w' = w := by
  have h0 : ¬ ((n : Int) < 0) := by omega
  have h1 : ¬ ((1048576 : Int) < n) := by omega
  go_enter Try.func14, Try.ntmps14
  go_wp2_with fail
  refine (shift_in a n hn _).mono ?_
  rintro e w2 ⟨rfl, rfl⟩
  go_wp2_with fail
  exact bodyPost_ret (v := uv (mx (8 * n) a ^^^ b)) (by simp [results, Try.results14, go_sem, iv_xor]) rfl ⟨rfl, rfl⟩
end Go.Proofs.Ytibjllfabalfjaa
