/- The plain law of the sums: shifts of a 32 bit remainder, no program in sight. -/
import Derived.WalkKit
namespace Go.Proofs.Ytopdedhdfaomfaa

def poly : BitVec 32 := 0xedb88320#32
def one : BitVec 32 := 0x80000000#32
def sel (c : Bool) (v : BitVec 32) : BitVec 32 := bif c then v else 0#32
def mulx (b : BitVec 32) : BitVec 32 := (b >>> 1) ^^^ sel (b.getLsbD 0) poly
def mx : Nat → BitVec 32 → BitVec 32
  | 0, b => b
  | n + 1, b => mx n (mulx b)

theorem sel_xor (a b : Bool) (v : BitVec 32) : sel (a ^^ b) v = sel a v ^^^ sel b v := by
  cases a <;> cases b <;> simp [sel]
theorem xor4 (a b c d : BitVec 32) : (a ^^^ b) ^^^ (c ^^^ d) = (a ^^^ c) ^^^ (b ^^^ d) := by
  rw [BitVec.xor_assoc, BitVec.xor_assoc, ← BitVec.xor_assoc b c d, BitVec.xor_comm b c, BitVec.xor_assoc c b d]
theorem mulx_xor (a b : BitVec 32) : mulx (a ^^^ b) = mulx a ^^^ mulx b := by
  unfold mulx
  rw [BitVec.ushiftRight_xor_distrib, BitVec.getLsbD_xor, sel_xor, xor4]
theorem mulx_zero : mulx 0#32 = 0#32 := by decide
theorem mulx_bit (b : BitVec 32) (k : Nat) : (mulx b).getLsbD k = ((b.getLsbD (k + 1)) ^^ (b.getLsbD 0 && poly.getLsbD k)) := by
  unfold mulx sel
  rw [BitVec.getLsbD_xor, BitVec.getLsbD_ushiftRight, Nat.add_comm 1 k]
  cases b.getLsbD 0 <;> simp
theorem mulx_eq_zero {b : BitVec 32} (h : mulx b = 0#32) : b = 0#32 := by
  have h31 := mulx_bit b 31
  rw [h] at h31
  have hp : poly.getLsbD 31 = true := by decide
  rw [hp, BitVec.getLsbD_of_ge b 32 (by omega)] at h31
  simp only [BitVec.getLsbD_zero, Bool.false_bne, Bool.and_true] at h31
  have h0 : b.getLsbD 0 = false := by
    cases hb : b.getLsbD 0
    · rfl
    · rw [hb] at h31; simp at h31
  apply BitVec.eq_of_getLsbD_eq
  intro i hi
  match i with
  | 0 => rw [h0]; simp
  | k + 1 =>
    have hk := mulx_bit b k
    rw [h, h0] at hk
    simpa using hk.symm

theorem mx_succ (n : Nat) (b : BitVec 32) : mx (n + 1) b = mulx (mx n b) := by
  induction n generalizing b with
  | zero => rfl
  | succ n ih =>
    rw [show mx (n + 1 + 1) b = mx (n + 1) (mulx b) from rfl, ih]
    rfl
theorem mx_add (m n : Nat) (b : BitVec 32) : mx (m + n) b = mx m (mx n b) := by
  induction n generalizing b with
  | zero => rfl
  | succ n ih => exact ih (mulx b)
theorem mx_xor (n : Nat) (a b : BitVec 32) : mx n (a ^^^ b) = mx n a ^^^ mx n b := by
  induction n generalizing a b with
  | zero => rfl
  | succ n ih => simp only [mx, mulx_xor, ih]
theorem mx_zero (n : Nat) : mx n 0#32 = 0#32 := by
  induction n with
  | zero => rfl
  | succ n ih => simp only [mx, mulx_zero, ih]
theorem mx_eq_zero {n : Nat} {b : BitVec 32} (h : mx n b = 0#32) : b = 0#32 := by
  induction n generalizing b with
  | zero => exact h
  | succ n ih => exact mulx_eq_zero (ih h)

/-! A row of bits as a number. -/
def num : List Bool → Nat
  | [] => 0
  | d :: ds => (if d then 1 else 0) + 2 * num ds
theorem num_bit (l : List Bool) (k : Nat) : (num l).testBit k = l.getD k false := by
  induction l generalizing k with
  | nil => simp [num]
  | cons d ds ih =>
    match k with
    | 0 =>
      cases d <;> simp [num, Nat.testBit_zero]
    | k + 1 =>
      rw [Nat.testBit_succ]
      have : num (d :: ds) / 2 = num ds := by
        show ((if d then 1 else 0) + 2 * num ds) / 2 = num ds
        cases d <;> simp <;> omega
      rw [this, ih]
      simp
def win (l : List Bool) : BitVec 32 := BitVec.ofNat 32 (num l)
theorem win_bit (l : List Bool) (k : Nat) (hk : k < 32) : (win l).getLsbD k = l.getD k false := by
  unfold win
  rw [BitVec.getLsbD_ofNat, num_bit]
  simp [hk]
theorem win_ext {l m : List Bool} (h : ∀ k, k < 32 → l.getD k false = m.getD k false) : win l = win m := by
  apply BitVec.eq_of_getLsbD_eq
  intro i hi
  rw [win_bit _ _ hi, win_bit _ _ hi, h i hi]
theorem num_lt (l : List Bool) : num l < 2 ^ l.length := by
  induction l with
  | nil => simp [num]
  | cons d ds ih =>
    simp only [num, List.length_cons, Nat.pow_succ]
    cases d <;> simp <;> omega
theorem num_append_false (l : List Bool) (n : Nat) : num (l ++ List.replicate n false) = num l := by
  apply Nat.eq_of_testBit_eq
  intro i
  rw [num_bit, num_bit]
  simp only [List.getD_eq_getElem?_getD, List.getElem?_append, List.getElem?_replicate]
  split
  · rfl
  · next h =>
    rw [List.getElem?_eq_none (by omega)]
    split <;> rfl

/-- The k low bits of a number, the lowest first. -/
def rowN : Nat → Nat → List Bool
  | 0, _ => []
  | k + 1, n => (n % 2 == 1) :: rowN k (n / 2)
theorem rowN_length (k n : Nat) : (rowN k n).length = k := by
  induction k generalizing n with
  | zero => rfl
  | succ k ih => simp [rowN, ih]
theorem num_rowN (k n : Nat) (h : n < 2 ^ k) : num (rowN k n) = n := by
  induction k generalizing n with
  | zero => simp at h; subst h; rfl
  | succ k ih =>
    have h2 : n / 2 < 2 ^ k := by rw [Nat.pow_succ] at h; omega
    simp only [rowN, num, ih _ h2]
    rcases Nat.mod_two_eq_zero_or_one n with h | h <;> simp [h] <;> omega

/-! Two ways of feeding bits: at the low end (the fast one), at the high end (division). -/
def feed : BitVec 32 → List Bool → BitVec 32
  | s, [] => s
  | s, d :: ds => feed (mulx (s ^^^ sel d 1#32)) ds
def run : BitVec 32 → List Bool → BitVec 32
  | r, [] => r
  | r, d :: ds => run (mulx r ^^^ sel d one) ds
theorem feed_append (s : BitVec 32) (l m : List Bool) : feed s (l ++ m) = feed (feed s l) m := by
  induction l generalizing s with
  | nil => rfl
  | cons d ds ih => exact ih _
theorem run_append (s : BitVec 32) (l m : List Bool) : run s (l ++ m) = run (run s l) m := by
  induction l generalizing s with
  | nil => rfl
  | cons d ds ih => exact ih _

theorem win_step (d : Bool) (ds : List Bool) : mulx (sel d 1#32 ^^^ win (d :: ds)) ^^^ sel ((d :: ds).getD 32 false) one = win ds := by
  apply BitVec.eq_of_getLsbD_eq
  intro i hi
  rw [BitVec.getLsbD_xor, mulx_bit, BitVec.getLsbD_xor, BitVec.getLsbD_xor, win_bit ds i hi, win_bit _ 0 (by omega)]
  have h0 : (sel d 1#32).getLsbD 0 = d := by cases d <;> rfl
  have h1 : (sel d 1#32).getLsbD (i + 1) = false := by cases d <;> simp [sel]
  rw [h0, h1]
  rcases Nat.lt_or_ge i 31 with h | h
  · rw [win_bit _ (i + 1) (by omega)]
    have ho : (sel ((d :: ds).getD 32 false) one).getLsbD i = false := by
      generalize (d :: ds).getD 32 false = e
      cases e
      · simp [sel]
      · have : ∀ j : Fin 31, one.getLsbD j = false := by decide
        exact this ⟨i, h⟩
    rw [ho]
    simp
  · have : i = 31 := by omega
    subst this
    rw [BitVec.getLsbD_of_ge _ 32 (by omega)]
    have ho : (sel ((d :: ds).getD 32 false) one).getLsbD 31 = (d :: ds).getD 32 false := by
      generalize (d :: ds).getD 32 false = e
      cases e <;> rfl
    rw [ho]
    simp

/-- The bits from n on, as many as l is long. -/
def after : List Bool → List Bool
  | l => (l.drop 32) ++ List.replicate (min l.length 32) false

theorem run_feed (l : List Bool) (n : Nat) (s : BitVec 32) (hn : n ≤ l.length) (hz : ∀ k, n ≤ k → l.getD k false = false) :
    run (s ^^^ win l) ((List.range n).map fun i => l.getD (32 + i) false) = feed s (l.take n) := by
  induction n generalizing l s with
  | zero =>
    have : win l = 0#32 := by
      rw [show (0#32) = win [] from rfl]
      apply win_ext
      intro k _
      rw [hz k (by omega)]; rfl
    simp [run, feed, this]
  | succ n ih =>
    match l with
    | [] => simp at hn
    | d :: ds =>
      rw [List.range_succ_eq_map, List.map_cons, List.map_map, List.take_succ_cons]
      show run (mulx (s ^^^ win (d :: ds)) ^^^ sel ((d :: ds).getD (32 + 0) false) one) _ = feed (mulx (s ^^^ sel d 1#32)) (ds.take n)
      rw [← ih ds _ (by simpa using hn) (fun k hk => by simpa using hz (k + 1) (by omega))]
      congr 1
      rw [← win_step d ds, Nat.add_zero, ← BitVec.xor_assoc, ← mulx_xor, ← BitVec.xor_assoc, BitVec.xor_assoc s, BitVec.xor_self, BitVec.xor_zero]

theorem feed_xor (s t : BitVec 32) (l : List Bool) (m : List Bool) (h : l.length = m.length) : feed (s ^^^ t) (List.zipWith xor l m) = feed s l ^^^ feed t m := by
  induction l generalizing s t m with
  | nil =>
    cases m with
    | nil => rfl
    | cons _ _ => simp at h
  | cons d ds ih =>
    cases m with
    | nil => simp at h
    | cons e es =>
      simp only [List.zipWith_cons_cons, feed]
      rw [← ih _ _ _ (by simpa using h), ← mulx_xor, sel_xor, xor4]
theorem feed_false (s : BitVec 32) (n : Nat) : feed s (List.replicate n false) = mx n s := by
  induction n generalizing s with
  | zero => rfl
  | succ n ih =>
    simp only [List.replicate_succ, feed, ih, mx]
    simp [sel]
theorem feed_split (s t : BitVec 32) (l : List Bool) : feed (s ^^^ t) l = mx l.length s ^^^ feed t l := by
  have h := feed_xor s t (List.replicate l.length false) l (by simp)
  rw [feed_false] at h
  rw [← h]
  congr 1
  apply List.ext_getElem
  · simp
  · intro i h1 h2
    simp
theorem run_false (s : BitVec 32) (n : Nat) : run s (List.replicate n false) = mx n s := by
  induction n generalizing s with
  | zero => rfl
  | succ n ih =>
    simp only [List.replicate_succ, run, ih, mx]
    simp [sel]

/-! Bytes. -/
def bitsOf (b : List Nat) : List Bool := b.flatMap (rowN 8)
theorem bitsOf_length (b : List Nat) : (bitsOf b).length = 8 * b.length := by
  induction b with
  | nil => rfl
  | cons x xs ih =>
    simp only [bitsOf, List.flatMap_cons, List.length_append, rowN_length, List.length_cons] at ih ⊢
    omega
theorem bitsOf_append (a b : List Nat) : bitsOf (a ++ b) = bitsOf a ++ bitsOf b := by simp [bitsOf]
def addB (s : BitVec 32) (b : List Nat) : BitVec 32 := feed s (bitsOf b)
def ofB (b : List Nat) : BitVec 32 := ~~~(addB (BitVec.allOnes 32) b)

theorem ofNat_half (x : Nat) (hx : x < 4294967296) : mulx (BitVec.ofNat 32 x) = BitVec.ofNat 32 (x / 2) ^^^ sel (x % 2 == 1) poly := by
  unfold mulx
  congr 1
  · apply BitVec.eq_of_toNat_eq
    simp [Nat.shiftRight_eq_div_pow]
    omega
  · congr 1
    rw [BitVec.getLsbD_ofNat]
    simp only [Nat.testBit_zero]
    simp
    by_cases h : x % 2 = 1 <;> simp [h]
theorem feed_row (k x : Nat) (s : BitVec 32) (hx : x < 2 ^ k) (hk : k ≤ 32) : feed s (rowN k x) = mx k (s ^^^ BitVec.ofNat 32 x) := by
  induction k generalizing x s with
  | zero => simp at hx; subst hx; simp [rowN, feed, mx]
  | succ k ih =>
    have hp : 2 ^ (k + 1) ≤ 2 ^ 32 := Nat.pow_le_pow_right (by omega) hk
    have h2 : x / 2 < 2 ^ k := by rw [Nat.pow_succ] at hx; omega
    simp only [rowN, feed, mx]
    rw [ih _ _ h2 (by omega)]
    congr 1
    rw [mulx_xor, mulx_xor, BitVec.xor_assoc]
    congr 1
    rw [ofNat_half x (by omega), BitVec.xor_comm]
    congr 1
    have hone : mulx 1#32 = poly := by decide
    cases (x % 2 == 1)
    · simp [sel, mulx_zero]
    · simpa [sel] using hone
theorem mx_high (k : Nat) (x : Nat) (hx : x * 2 ^ k < 4294967296) : mx k (BitVec.ofNat 32 (x * 2 ^ k)) = BitVec.ofNat 32 x := by
  induction k with
  | zero => simp [mx]
  | succ k ih =>
    have e : x * 2 ^ (k + 1) = x * 2 ^ k * 2 := by rw [Nat.pow_succ, Nat.mul_assoc]
    rw [e] at hx ⊢
    simp only [mx]
    rw [ofNat_half _ hx, Nat.mul_div_cancel _ (by omega), Nat.mul_mod_left]
    show mx k (_ ^^^ 0#32) = _
    rw [BitVec.xor_zero, ih (by omega)]
/-- What a byte does to a sum, by the table. -/
theorem feed_byte (s : BitVec 32) (x : Nat) (hx : x < 256) : feed s (rowN 8 x) = (s >>> 8) ^^^ mx 8 (BitVec.ofNat 32 ((s.toNat % 256) ^^^ x)) := by
  rw [feed_row 8 x s hx (by omega)]
  have hs : s = BitVec.ofNat 32 (s.toNat / 256 * 2 ^ 8) ^^^ BitVec.ofNat 32 (s.toNat % 256) := by
    apply BitVec.eq_of_toNat_eq
    have hl := s.isLt
    rw [BitVec.toNat_xor, BitVec.toNat_ofNat, BitVec.toNat_ofNat, Nat.mod_eq_of_lt (by omega), Nat.mod_eq_of_lt (by omega)]
    have h3 : (s.toNat / 256 * 2 ^ 8) ^^^ (s.toNat % 256) = s.toNat / 256 * 2 ^ 8 + s.toNat % 256 := by
      rw [Nat.mul_comm]
      rw [Nat.two_pow_add_eq_or_of_lt (by omega)]
      apply Nat.eq_of_testBit_eq
      intro i
      rw [Nat.testBit_xor, Nat.testBit_or, Nat.testBit_two_pow_mul]
      rcases Nat.lt_or_ge i 8 with h | h
      · simp [show ¬ i ≥ 8 by omega]
      · rw [Nat.testBit_lt_two_pow (x := s.toNat % 256)]
        · simp
        · exact Nat.lt_of_lt_of_le (Nat.mod_lt _ (by omega)) (Nat.pow_le_pow_right (n := 2) (by omega) h)
    rw [h3]
    omega
  have hl := s.isLt
  conv => lhs; rw [hs]
  rw [BitVec.xor_assoc, mx_xor, mx_high 8 _ (by omega)]
  congr 1
  · apply BitVec.eq_of_toNat_eq
    rw [BitVec.toNat_ofNat, BitVec.toNat_ushiftRight, Nat.shiftRight_eq_div_pow, Nat.mod_eq_of_lt (by omega)]
  · congr 1
    apply BitVec.eq_of_toNat_eq
    have h1 : s.toNat % 256 ^^^ x < 2 ^ 8 := Nat.xor_lt_two_pow (by omega) hx
    rw [BitVec.toNat_xor, BitVec.toNat_ofNat, BitVec.toNat_ofNat, BitVec.toNat_ofNat, Nat.mod_eq_of_lt (a := s.toNat % 256) (by omega), Nat.mod_eq_of_lt (a := x) (by omega), Nat.mod_eq_of_lt (a := s.toNat % 256 ^^^ x) (by omega)]

theorem addB_nil (s : BitVec 32) : addB s [] = s := rfl
theorem addB_cons (s : BitVec 32) (x : Nat) (b : List Nat) : addB s (x :: b) = addB (feed s (rowN 8 x)) b := by
  unfold addB bitsOf
  rw [List.flatMap_cons, feed_append]
theorem addB_append (s : BitVec 32) (a b : List Nat) : addB s (a ++ b) = addB (addB s a) b := by
  unfold addB
  rw [bitsOf_append, feed_append]
theorem addB_split (s t : BitVec 32) (b : List Nat) : addB (s ^^^ t) b = mx (8 * b.length) s ^^^ addB t b := by
  unfold addB
  rw [feed_split, bitsOf_length]

/-- SumJoins. -/
theorem ofB_append (a b : List Nat) : mx (8 * b.length) (ofB a) ^^^ ofB b = ofB (a ++ b) := by
  unfold ofB
  rw [addB_append]
  have h (x : BitVec 32) : ~~~x = BitVec.allOnes 32 ^^^ x := BitVec.allOnes_xor.symm
  rw [h, h, h, mx_xor]
  have e : addB (BitVec.allOnes 32) b = mx (8 * b.length) (BitVec.allOnes 32) ^^^ addB 0#32 b := by
    rw [← addB_split, BitVec.xor_zero]
  have f : addB (addB (BitVec.allOnes 32) a) b = mx (8 * b.length) (addB (BitVec.allOnes 32) a) ^^^ addB 0#32 b := by
    rw [← addB_split, BitVec.xor_zero]
  rw [e, f]
  generalize mx (8 * b.length) (BitVec.allOnes 32) = p
  generalize mx (8 * b.length) (addB (BitVec.allOnes 32) a) = q
  generalize addB 0#32 b = r
  generalize BitVec.allOnes 32 = t
  apply BitVec.eq_of_getLsbD_eq
  intro i _
  simp only [BitVec.getLsbD_xor]
  cases p.getLsbD i <;> cases q.getLsbD i <;> cases r.getLsbD i <;> cases t.getLsbD i <;> rfl

/-! Products. -/
theorem mx_one (k : Nat) (hk : k ≤ 31) : mx k one = one >>> k := by
  have : ∀ j : Fin 32, mx j one = one >>> (j : Nat) := by decide
  exact this ⟨k, by omega⟩
/-- The k topmost bits of a. -/
def topBits (k : Nat) (a : BitVec 32) : BitVec 32 := (a >>> (32 - k)) <<< (32 - k)
theorem topBits_bit (k i : Nat) (hi : i < 32) (a : BitVec 32) : (topBits k a).getLsbD i = (decide (32 - k ≤ i) && a.getLsbD i) := by
  unfold topBits
  rw [BitVec.getLsbD_shiftLeft, BitVec.getLsbD_ushiftRight]
  rcases Nat.lt_or_ge i (32 - k) with h | h
  · simp [h, show ¬ 32 - k ≤ i by omega]
  · rw [show 32 - k + (i - (32 - k)) = i by omega]
    simp [h, hi, show ¬ i < 32 - k by omega]
theorem topBits_zero (a : BitVec 32) : topBits 0 a = 0#32 := by
  apply BitVec.eq_of_getLsbD_eq
  intro i hi
  rw [topBits_bit _ _ hi]
  simp
  omega
theorem topBits_all (a : BitVec 32) : topBits 32 a = a := by simp [topBits]
theorem topBits_succ (k : Nat) (hk : k < 32) (a : BitVec 32) : topBits (k + 1) a = topBits k a ^^^ sel ((a <<< k).getLsbD 31) (mx k one) := by
  rw [mx_one k (by omega)]
  apply BitVec.eq_of_getLsbD_eq
  intro i hi
  have hs : (a <<< k).getLsbD 31 = a.getLsbD (31 - k) := by
    rw [BitVec.getLsbD_shiftLeft]
    simp
    omega
  have ho : (one >>> k).getLsbD i = decide (i = 31 - k) := by
    rw [BitVec.getLsbD_ushiftRight]
    have : ∀ j : Fin 64, one.getLsbD j = decide (j.val = 31) := by decide
    rw [this ⟨k + i, by omega⟩]
    simp only [decide_eq_decide]
    omega
  have hsel : (sel (a.getLsbD (31 - k)) (one >>> k)).getLsbD i = (a.getLsbD (31 - k) && decide (i = 31 - k)) := by
    unfold sel
    cases a.getLsbD (31 - k)
    · simp
    · simp [ho]
  rw [BitVec.getLsbD_xor, hs, topBits_bit _ _ hi, topBits_bit _ _ hi, hsel]
  rcases Nat.lt_trichotomy i (31 - k) with h | h | h
  · rw [decide_eq_false (show ¬ 32 - (k + 1) ≤ i by omega), decide_eq_false (show ¬ 32 - k ≤ i by omega), decide_eq_false (show ¬ i = 31 - k by omega)]
    simp
  · subst h
    simp [show ¬ 32 - k ≤ 31 - k by omega]
  · rw [decide_eq_true (show 32 - (k + 1) ≤ i by omega), decide_eq_true (show 32 - k ≤ i by omega), decide_eq_false (show ¬ i = 31 - k by omega)]
    simp
theorem sel_mx (c : Bool) (m : Nat) (v : BitVec 32) : mx m (sel c v) = sel c (mx m v) := by
  cases c
  · exact mx_zero m
  · rfl
end Go.Proofs.Ytopdedhdfaomfaa
