/- Bits turned in place: plain. -/
import Derived.Test.YtopdedhdfaomfaaG
namespace Go.Proofs.Ytopdedhdfaomfaa
/-- The bits at o, o+1, .., o+k-1 turned. -/
def flips (o : Nat) : Nat → List Bool → List Bool
  | 0, L => L
  | k + 1, L => (flips o k L).set (o + k) (!(flips o k L).getD (o + k) false)
theorem flips_length (o k : Nat) (L : List Bool) : (flips o k L).length = L.length := by
  induction k with
  | zero => rfl
  | succ k ih => simp only [flips, List.length_set, ih]
theorem flips_get (o k : Nat) (L : List Bool) (h : o + k ≤ L.length) (j : Nat) : (flips o k L).getD j false = (L.getD j false ^^ (decide (o ≤ j) && decide (j < o + k))) := by
  induction k with
  | zero =>
    have : (decide (o ≤ j) && decide (j < o + 0)) = false := by
      by_cases h1 : o ≤ j
      · simp [h1]
      · simp [h1]
    rw [this]
    simp [flips]
  | succ k ih =>
    have ih := ih (by omega)
    by_cases hj : j = o + k
    · subst hj
      rw [flips, getD_set_self _ _ _ (by rw [flips_length]; omega), ih]
      simp [show ¬ o + k < o + k by omega, show o + k < o + (k + 1) by omega]
    · rw [flips, getD_set_ne' _ _ _ _ (fun e => hj e.symm), ih]
      have e : decide (j < o + (k + 1)) = decide (j < o + k) := by rw [decide_eq_decide]; omega
      rw [e]
/-- The reference's sum, told by the fast way. -/
theorem ref_of (b : List Nat) : ~~~(restW (flips 0 32 (bitsOf b ++ List.replicate 32 false)) (8 * b.length)) = ofB b := by
  have hlen : (bitsOf b).length = 8 * b.length := bitsOf_length b
  have hL : (bitsOf b ++ List.replicate 32 false).length = 8 * b.length + 32 := by simp [hlen]
  have hpad : ∀ j, (bitsOf b ++ List.replicate 32 false).getD j false = (bitsOf b).getD j false := by
    intro j
    rw [List.getD_eq_getElem?_getD, List.getD_eq_getElem?_getD, List.getElem?_append]
    split
    · rfl
    · next h =>
      rw [List.getElem?_eq_none (l := bitsOf b) (by omega), List.getElem?_replicate]
      split <;> rfl
  have hz : ∀ k, 8 * b.length ≤ k → (bitsOf b).getD k false = false := by
    intro k hk
    rw [List.getD_eq_getElem?_getD, List.getElem?_eq_none (by omega)]
    rfl
  have h := run_feed (bitsOf b) (8 * b.length) (BitVec.allOnes 32) (by omega) hz
  rw [List.take_of_length_le (by omega)] at h
  have hw : win (flips 0 32 (bitsOf b ++ List.replicate 32 false)) = BitVec.allOnes 32 ^^^ win (bitsOf b) := by
    apply BitVec.eq_of_getLsbD_eq
    intro i hi
    have ha : (BitVec.allOnes 32).getLsbD i = true := by rw [BitVec.getLsbD_allOnes]; exact decide_eq_true hi
    have hd : (decide (0 ≤ i) && decide (i < 0 + 32)) = true := by simp; omega
    rw [win_bit _ _ hi, flips_get 0 32 _ (by omega), hpad, BitVec.getLsbD_xor, win_bit _ _ hi, ha, hd, Bool.xor_comm]
  have hm : ((List.range (8 * b.length)).map fun i => (flips 0 32 (bitsOf b ++ List.replicate 32 false)).getD (32 + i) false) = (List.range (8 * b.length)).map fun i => (bitsOf b).getD (32 + i) false := by
    apply List.map_congr_left
    intro i hi
    have hd : (decide (0 ≤ 32 + i) && decide (32 + i < 0 + 32)) = false := by simp
    rw [flips_get 0 32 _ (by omega), hpad, hd, Bool.xor_false]
  have hr : restW (flips 0 32 (bitsOf b ++ List.replicate 32 false)) (8 * b.length) = addB (BitVec.allOnes 32) b := by
    unfold restW addB
    rw [hw, hm]
    exact h
  rw [hr]
  rfl
end Go.Proofs.Ytopdedhdfaomfaa
