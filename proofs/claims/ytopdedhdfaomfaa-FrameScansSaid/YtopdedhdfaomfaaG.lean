/- Division of a row of bits, told by a 32 bit window. -/
import Derived.Test.YtopdedhdfaomfaaN
namespace Go.Proofs.Ytopdedhdfaomfaa
def powers : List Nat := [26, 23, 22, 16, 12, 11, 10, 8, 7, 5, 4, 2, 1, 0]
/-- The places i + 32 - p turned, for p in ps. -/
def togs (i : Nat) (L : List Bool) (ps : List Nat) : List Bool := ps.foldl (fun L p => L.set (i + 32 - p) (!L.getD (i + 32 - p) false)) L
/-- One step of the division. -/
def divStep (i : Nat) (L : List Bool) : List Bool := if L.getD i false then togs i (L.set i false) powers else L
theorem togs_length (i : Nat) (ps : List Nat) (L : List Bool) : (togs i L ps).length = L.length := by
  induction ps generalizing L with
  | nil => rfl
  | cons p ps ih => exact (ih _).trans (by simp)
theorem divStep_length (i : Nat) (L : List Bool) : (divStep i L).length = L.length := by
  unfold divStep
  split
  · rw [togs_length]; simp
  · rfl
theorem togs_snoc (i : Nat) (L : List Bool) (ps : List Nat) (p : Nat) : togs i L (ps ++ [p]) = (togs i L ps).set (i + 32 - p) (!(togs i L ps).getD (i + 32 - p) false) := by
  simp [togs, List.foldl_append]
theorem getD_set_self (L : List Bool) (q : Nat) (v : Bool) (h : q < L.length) : (L.set q v).getD q false = v := by
  rw [List.getD_eq_getElem?_getD, List.getElem?_set_self h]; rfl
theorem getD_set_ne' (L : List Bool) (q j : Nat) (v : Bool) (h : ¬ q = j) : (L.set q v).getD j false = L.getD j false := by
  rw [List.getD_eq_getElem?_getD, List.getElem?_set_ne h, ← List.getD_eq_getElem?_getD]
theorem togs_get (i : Nat) (ps : List Nat) (L : List Bool) (hnd : (ps.map (i + 32 - ·)).Nodup) (hlen : ∀ p ∈ ps, i + 32 - p < L.length) (j : Nat) :
    (togs i L ps).getD j false = (L.getD j false ^^ decide (j ∈ ps.map (i + 32 - ·))) := by
  induction ps generalizing L with
  | nil => simp [togs]
  | cons p ps ih =>
    rw [List.map_cons, List.nodup_cons] at hnd
    have h1 := ih (L.set (i + 32 - p) (!L.getD (i + 32 - p) false)) hnd.2 (fun q hq => by rw [List.length_set]; exact hlen q (List.mem_cons_of_mem _ hq))
    rw [show togs i L (p :: ps) = togs i (L.set (i + 32 - p) (!L.getD (i + 32 - p) false)) ps from rfl, h1]
    have hp := hlen p (List.mem_cons_self ..)
    by_cases hj : j = i + 32 - p
    · subst hj
      rw [getD_set_self _ _ _ hp]
      have hn : decide (i + 32 - p ∈ ps.map (i + 32 - ·)) = false := decide_eq_false hnd.1
      rw [hn, List.map_cons]
      simp
    · rw [getD_set_ne' _ _ _ _ (fun h => hj h.symm), List.map_cons]
      congr 1
      rw [decide_eq_decide]
      simp [hj]
theorem powers_mem (i k : Nat) (hk : k < 32) : decide (i + 1 + k ∈ powers.map (i + 32 - ·)) = poly.getLsbD k := by
  have h : poly.getLsbD k = decide (31 - k ∈ powers) := by
    have : ∀ j : Fin 32, poly.getLsbD j = decide (31 - j.val ∈ powers) := by decide
    exact this ⟨k, hk⟩
  rw [h, decide_eq_decide]
  constructor
  · intro hm
    obtain ⟨p, hp, he⟩ := List.mem_map.1 hm
    have hle : ∀ p ∈ powers, p ≤ 26 := by decide
    have := hle p hp
    have : 31 - k = p := by omega
    rw [this]; exact hp
  · intro hm
    refine List.mem_map.2 ⟨31 - k, hm, ?_⟩
    have hle : ∀ p ∈ powers, p ≤ 26 := by decide
    have := hle _ hm
    omega
theorem powers_nodup (i : Nat) : (powers.map (i + 32 - ·)).Nodup := by
  have hle : ∀ p ∈ powers, p ≤ 26 := by decide
  have hnd : powers.Nodup := by decide
  refine List.Pairwise.map _ (R := fun a b => a ≠ b ∧ a ≤ 26 ∧ b ≤ 26) (fun a b h => by omega) ?_
  rw [List.pairwise_iff_getElem]
  intro a b ha hb hab
  refine ⟨?_, hle _ (List.getElem_mem _), hle _ (List.getElem_mem _)⟩
  exact (List.pairwise_iff_getElem.1 hnd) a b ha hb hab
theorem divStep_get (i : Nat) (L : List Bool) (hi : i + 32 < L.length) (k : Nat) (hk : k < 32) :
    (divStep i L).getD (i + 1 + k) false = (L.getD (i + 1 + k) false ^^ (L.getD i false && poly.getLsbD k)) := by
  unfold divStep
  cases h : L.getD i false
  · simp
  · rw [if_pos rfl, togs_get i powers _ (powers_nodup i) (fun p _ => by rw [List.length_set]; omega), powers_mem i k hk, getD_set_ne' _ _ _ _ (by omega)]
    simp
theorem divStep_far (i : Nat) (L : List Bool) (hi : i + 32 < L.length) (j : Nat) (hj : i + 32 < j) : (divStep i L).getD j false = L.getD j false := by
  unfold divStep
  cases h : L.getD i false
  · rfl
  · rw [if_pos rfl, togs_get i powers _ (powers_nodup i) (fun p _ => by rw [List.length_set]; omega), getD_set_ne' _ _ _ _ (by omega)]
    have : ¬ j ∈ powers.map (i + 32 - ·) := by
      intro hm
      obtain ⟨p, _, he⟩ := List.mem_map.1 hm
      omega
    simp [this]
/-- The first n steps. -/
def divs : Nat → List Bool → List Bool
  | 0, L => L
  | n + 1, L => divStep n (divs n L)
theorem divs_length (n : Nat) (L : List Bool) : (divs n L).length = L.length := by
  induction n with
  | zero => rfl
  | succ n ih => rw [divs, divStep_length, ih]
theorem divs_far (n : Nat) (L : List Bool) (hn : n + 32 ≤ L.length) (j : Nat) (hj : n + 32 ≤ j) : (divs n L).getD j false = L.getD j false := by
  induction n with
  | zero => rfl
  | succ n ih =>
    rw [divs, divStep_far n _ (by rw [divs_length]; omega) j (by omega)]
    exact ih (by omega) (by omega)
/-- What the division leaves. -/
def restW (L : List Bool) (n : Nat) : BitVec 32 := run (win L) ((List.range n).map fun i => L.getD (32 + i) false)
theorem divs_win (n : Nat) (L : List Bool) (hn : n + 32 ≤ L.length) (k : Nat) (hk : k < 32) : (divs n L).getD (n + k) false = (restW L n).getLsbD k := by
  induction n generalizing k with
  | zero =>
    simp only [Nat.zero_add, divs, restW, List.range_zero, List.map_nil, run]
    rw [win_bit _ _ hk]
  | succ n ih =>
    have ih' := fun k hk => ih (by omega) k hk
    rw [divs, divStep_get n _ (by rw [divs_length]; omega) k hk]
    unfold restW
    rw [List.range_succ, List.map_append, run_append]
    show _ = (mulx (restW L n) ^^^ sel (L.getD (32 + n) false) one).getLsbD k
    rw [BitVec.getLsbD_xor, mulx_bit]
    have h0 := ih' 0 (by omega)
    rw [Nat.add_zero] at h0
    rw [h0]
    rcases Nat.lt_or_ge k 31 with h | h
    · have h1 := ih' (k + 1) (by omega)
      rw [show n + 1 + k = n + (k + 1) by omega, h1]
      have ho : (sel (L.getD (32 + n) false) one).getLsbD k = false := by
        cases L.getD (32 + n) false
        · simp [sel]
        · have : ∀ j : Fin 31, one.getLsbD j = false := by decide
          exact this ⟨k, h⟩
      rw [ho]
      simp
    · have : k = 31 := by omega
      subst this
      rw [divs_far n L (by omega) (n + 1 + 31) (by omega), BitVec.getLsbD_of_ge _ 32 (by omega)]
      have ho : (sel (L.getD (32 + n) false) one).getLsbD 31 = L.getD (32 + n) false := by
        cases L.getD (32 + n) false <;> rfl
      rw [ho, show n + 1 + 31 = 32 + n by omega]
      simp [Bool.xor_comm]
end Go.Proofs.Ytopdedhdfaomfaa
