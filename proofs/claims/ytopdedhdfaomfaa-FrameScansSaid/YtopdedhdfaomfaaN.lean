/- What tells two rows of bytes apart: a burst of at most 32 bits. -/
import Derived.Test.YtopdedhdfaomfaaP
namespace Go.Proofs.Ytopdedhdfaomfaa
theorem rowN_get (k n i : Nat) : (rowN k n).getD i false = (decide (i < k) && n.testBit i) := by
  induction k generalizing n i with
  | zero => simp [rowN]
  | succ k ih =>
    match i with
    | 0 =>
      simp only [rowN, List.getD_cons_zero, Nat.testBit_zero]
      simp
      by_cases h : n % 2 = 1 <;> simp [h]
    | i + 1 =>
      simp only [rowN, List.getD_cons_succ, ih, Nat.testBit_succ]
      simp
theorem bitsOf_get (b : List Nat) (j : Nat) : (bitsOf b).getD j false = (b.getD (j / 8) 0).testBit (j % 8) := by
  induction b generalizing j with
  | nil => simp [bitsOf]
  | cons x xs ih =>
    have e : bitsOf (x :: xs) = rowN 8 x ++ bitsOf xs := rfl
    rw [e]
    rcases Nat.lt_or_ge j 8 with h | h
    · rw [List.getD_eq_getElem?_getD, List.getElem?_append_left (by rw [rowN_length]; exact h), ← List.getD_eq_getElem?_getD, rowN_get]
      rw [Nat.div_eq_of_lt h, Nat.mod_eq_of_lt h]
      simp [h]
    · rw [List.getD_eq_getElem?_getD, List.getElem?_append_right (by rw [rowN_length]; exact h), rowN_length, ← List.getD_eq_getElem?_getD, ih]
      have e1 : j / 8 = (j - 8) / 8 + 1 := by omega
      have e2 : (j - 8) % 8 = j % 8 := by omega
      rw [e1, e2, List.getD_cons_succ]
/-- A bit turned. -/
def turn (l : List Nat) (at_ : Nat) : List Nat := l.set (at_ / 8) (l.getD (at_ / 8) 0 ^^^ 2 ^ (at_ % 8))
theorem turn_length (l : List Nat) (p : Nat) : (turn l p).length = l.length := by simp [turn]
theorem turn_get (l : List Nat) (p j : Nat) (hp : p < 8 * l.length) : (bitsOf (turn l p)).getD j false = ((bitsOf l).getD j false ^^ decide (j = p)) := by
  rw [bitsOf_get, bitsOf_get]
  unfold turn
  by_cases h : j / 8 = p / 8
  · rw [h, List.getD_eq_getElem?_getD, List.getElem?_set_self (by omega)]
    simp only [Option.getD_some, Nat.testBit_xor, Nat.testBit_two_pow]
    congr 1
    simp only [decide_eq_decide]
    omega
  · rw [List.getD_eq_getElem?_getD, List.getElem?_set_ne (by omega), ← List.getD_eq_getElem?_getD]
    have : ¬ j = p := by rintro rfl; exact h rfl
    simp [this]
theorem turn_lt (l : List Nat) (p : Nat) (h : ∀ x ∈ l, x < 256) : ∀ x ∈ turn l p, x < 256 := by
  intro x hx
  rcases List.mem_or_eq_of_mem_set hx with h1 | h1
  · exact h x h1
  · subst h1
    refine Nat.xor_lt_two_pow (n := 8) ?_ (Nat.pow_lt_pow_right (by omega) (Nat.mod_lt _ (by omega)))
    rw [List.getD_eq_getElem?_getD]
    cases hq : l[p / 8]? with
    | none => simp
    | some y => exact h y (List.mem_of_getElem? hq)

theorem told (b c : List Nat) (bit : Nat) (mask : BitVec 32) (hm : mask ≠ 0#32) (hl : c.length = b.length)
    (hb : ∀ j, j < 8 * b.length → (bitsOf c).getD j false = ((bitsOf b).getD j false ^^ (decide (bit ≤ j) && mask.getLsbD (j - bit))))
    (hin : ∀ i, i < 32 → mask.getLsbD i = true → bit + i < 8 * b.length) : ofB c ≠ ofB b := by
  have hbit : bit < 8 * b.length := by
    by_cases h : bit < 8 * b.length
    · exact h
    · exfalso
      apply hm
      apply BitVec.eq_of_getLsbD_eq
      intro i hi
      cases hq : mask.getLsbD i
      · simp
      · have := hin i hi hq; omega
  generalize hE : (List.range (8 * b.length - bit)).map (fun k => mask.getLsbD k) = E
  have hlen : (bitsOf b).length = 8 * b.length := bitsOf_length b
  have hlen2 : (bitsOf c).length = 8 * b.length := by rw [bitsOf_length, hl]
  have hlE : E.length = 8 * b.length - bit := by rw [← hE]; simp
  have key : bitsOf c = List.zipWith xor (bitsOf b) (List.replicate bit false ++ E) := by
    apply List.ext_getElem
    · simp [hlen, hlen2, hlE]; omega
    · intro j h1 h2
      have := hb j (by omega)
      rw [List.getD_eq_getElem?_getD, List.getD_eq_getElem?_getD, List.getElem?_eq_getElem h1, List.getElem?_eq_getElem (by omega)] at this
      simp only [Option.getD_some] at this
      rw [this, List.getElem_zipWith]
      congr 1
      rw [List.getElem_append]
      split
      · next h =>
        simp at h
        simp [show ¬ bit ≤ j by omega]
      · next h =>
        simp at h
        subst hE
        simp [h]
  intro heq
  unfold ofB addB at heq
  have h1 : feed (BitVec.allOnes 32) (bitsOf c) = feed (BitVec.allOnes 32) (bitsOf b) := by
    have := congrArg (fun x => ~~~x) heq
    simpa using this
  rw [key] at h1
  have h2 := feed_xor (BitVec.allOnes 32) 0#32 (bitsOf b) (List.replicate bit false ++ E) (by simp [hlen, hlE]; omega)
  rw [BitVec.xor_zero] at h2
  rw [h2] at h1
  have h3 : feed 0#32 (List.replicate bit false ++ E) = 0#32 := by
    have h4 := congrArg (fun x => feed (BitVec.allOnes 32) (bitsOf b) ^^^ x) h1
    simp only [← BitVec.xor_assoc, BitVec.xor_self, BitVec.zero_xor] at h4
    exact h4
  rw [feed_append, feed_false, mx_zero] at h3
  have hEz : ∀ k, E.length ≤ k → E.getD k false = false := by
    intro k hk
    rw [List.getD_eq_getElem?_getD, List.getElem?_eq_none hk]
    rfl
  have h5 := run_feed E E.length 0#32 (Nat.le_refl _) hEz
  rw [List.take_length, h3, BitVec.zero_xor] at h5
  have h6 : ((List.range E.length).map fun i => E.getD (32 + i) false) = List.replicate E.length false := by
    apply List.ext_getElem
    · simp
    · intro i h1 h2
      simp only [List.getElem_map, List.getElem_range, List.getElem_replicate]
      rw [← hE]
      rw [List.getD_eq_getElem?_getD, List.getElem?_map]
      cases hq : (List.range (8 * b.length - bit))[32 + i]? with
      | none => rfl
      | some v =>
        have : v = 32 + i := by
          rw [List.getElem?_eq_some_iff] at hq
          obtain ⟨_, hv⟩ := hq
          simpa using hv.symm
        subst this
        exact BitVec.getLsbD_of_ge _ _ (by omega)
  rw [h6, run_false] at h5
  have h7 := mx_eq_zero h5
  apply hm
  rw [← h7]
  apply BitVec.eq_of_getLsbD_eq
  intro i hi
  rw [win_bit _ _ hi, ← hE, List.getD_eq_getElem?_getD, List.getElem?_map]
  rcases Nat.lt_or_ge i (8 * b.length - bit) with h | h
  · rw [List.getElem?_range h]
    rfl
  · rw [List.getElem?_eq_none (by simpa using h)]
    simp only [Option.map_none, Option.getD_none]
    cases hq : mask.getLsbD i
    · rfl
    · have := hin i hi hq
      omega
end Go.Proofs.Ytopdedhdfaomfaa
