/- A bit turned in a row of frames: plain. -/
import Derived.Test.YtopdedhdfaomfaaBa
import Derived.Test.YtopdedhdfaomfaaN
namespace Go.Proofs.Ytopdedhdfaomfaa
theorem turn_told (l : List Nat) (q : Nat) (hq : q < 8 * l.length) : ofB (turn l q) ≠ ofB l := by
  refine told l (turn l q) q 1#32 (by decide) (turn_length l q) (fun j hj => ?_) (fun i hi hm => ?_)
  · rw [turn_get l q j hq]
    congr 1
    by_cases h : j = q
    · subst h
      simp
    · rw [decide_eq_false h]
      by_cases h2 : q ≤ j
      · have : j - q ≠ 0 := by omega
        have e : (1#32).getLsbD (j - q) = false := by
          rw [BitVec.getLsbD_one]
          simp
          omega
        rw [e, Bool.and_false]
      · rw [decide_eq_false h2, Bool.false_and]
  · have : i = 0 := by
      by_cases h : i = 0
      · exact h
      · rw [BitVec.getLsbD_one] at hm
        simp at hm
        omega
    omega
theorem turn_right (a b : List Nat) (q : Nat) : turn (a ++ b) (8 * a.length + q) = a ++ turn b q := by
  unfold turn
  rw [show (8 * a.length + q) / 8 = a.length + q / 8 by omega, show (8 * a.length + q) % 8 = q % 8 by omega]
  rw [List.set_append_right _ _ (by omega), Nat.add_sub_cancel_left]
  congr 2
  rw [List.getD_eq_getElem?_getD, List.getElem?_append_right (by omega), Nat.add_sub_cancel_left, ← List.getD_eq_getElem?_getD]
theorem turn_left (a b : List Nat) (q : Nat) (hq : q < 8 * a.length) : turn (a ++ b) q = turn a q ++ b := by
  unfold turn
  rw [List.set_append_left _ _ (by omega)]
  congr 2
  rw [List.getD_eq_getElem?_getD, List.getElem?_append_left (by omega), ← List.getD_eq_getElem?_getD]
theorem bytes4_length (s : BitVec 32) : (bytes4 s).length = 4 := rfl
/-- A frame in which a bit is turned, but in its length, is none. -/
theorem torn_no (p t : List Nat) (hp : p.length ≤ 1000) (q : Nat) (h1 : 16 ≤ q) (h2 : q < 8 * (6 + p.length)) : nextE (turn (frameB p) q ++ t) ≠ 0 := by
  obtain ⟨q, rfl⟩ : ∃ m, q = 16 + m := ⟨q - 16, by omega⟩
  have he : turn (frameB p) (16 + q) = headB p.length ++ turn (bytes4 (ofB (headB p.length ++ p)) ++ p) q := turn_right (headB p.length) _ q
  intro h
  obtain ⟨z1, z2, z3, z4⟩ := nextE_zero h
  have hm : many (turn (frameB p) (16 + q) ++ t) = p.length := by
    rw [he]
    show p.length % 256 + 256 * (p.length / 256 % 256) = p.length
    exact head_sums p hp
  have hfl := frameB_length p
  have z5 := of_decide_eq_true z4
  unfold payload at z5
  rw [hm] at z5
  by_cases hq : q < 32
  · rw [turn_left _ _ q (by rw [bytes4_length]; omega)] at he
    have hl4 : (turn (bytes4 (ofB (headB p.length ++ p))) q).length = 4 := by rw [turn_length]; rfl
    have e1 : ((turn (frameB p) (16 + q) ++ t).drop 2).take 4 = turn (bytes4 (ofB (headB p.length ++ p))) q := by
      rw [he, List.append_assoc, List.append_assoc]
      show ((turn (bytes4 (ofB (headB p.length ++ p))) q) ++ (p ++ t)).take 4 = _
      rw [← hl4, List.take_left]
    have e2 : (turn (frameB p) (16 + q) ++ t).take 2 = headB p.length := by rw [he]; rfl
    have e3 : ((turn (frameB p) (16 + q) ++ t).drop 6).take p.length = p := by
      rw [he, List.append_assoc, List.append_assoc, ← List.append_assoc]
      have : (headB p.length ++ turn (bytes4 (ofB (headB p.length ++ p))) q).length = 6 := by rw [List.length_append, hl4]; rfl
      rw [← this, List.drop_left, List.take_left]
    rw [e1, e2, e3] at z5
    generalize ofB (headB p.length ++ p) = s at *
    have hb4 := bytes4_lt s
    have hle : ∀ (a b : List Nat), a.length = 4 → b.length = 4 → (∀ x ∈ a, x < 256) → (∀ x ∈ b, x < 256) → BitVec.ofNat 32 (le a) = BitVec.ofNat 32 (le b) → a = b := by
      intro a b ha hb hal hbl hab
      match a, b, ha, hb with
      | [a0, a1, a2, a3], [b0, b1, b2, b3], _, _ =>
        have := congrArg bytes4 hab
        rw [bytes4_le a0 a1 a2 a3 (hal _ (by simp)) (hal _ (by simp)) (hal _ (by simp)) (hal _ (by simp)), bytes4_le b0 b1 b2 b3 (hbl _ (by simp)) (hbl _ (by simp)) (hbl _ (by simp)) (hbl _ (by simp))] at this
        exact this
    have hee := hle _ _ hl4 rfl (turn_lt _ q hb4) hb4 (by rw [z5]; exact (le_bytes4 s).symm)
    exact turn_told (bytes4 s) q (by rw [bytes4_length]; omega) (by rw [hee])
  · obtain ⟨r, rfl⟩ : ∃ r, q = 8 * 4 + r := ⟨q - 32, by omega⟩
    rw [show 8 * 4 + r = 8 * (bytes4 (ofB (headB p.length ++ p))).length + r from rfl, turn_right] at he
    have e1 : ((turn (frameB p) (16 + (8 * 4 + r)) ++ t).drop 2).take 4 = bytes4 (ofB (headB p.length ++ p)) := by
      rw [show 8 * 4 + r = 8 * (bytes4 (ofB (headB p.length ++ p))).length + r from rfl, he, List.append_assoc, List.append_assoc]
      rfl
    have e2 : (turn (frameB p) (16 + (8 * 4 + r)) ++ t).take 2 = headB p.length := by
      rw [show 8 * 4 + r = 8 * (bytes4 (ofB (headB p.length ++ p))).length + r from rfl, he]; rfl
    have e3 : ((turn (frameB p) (16 + (8 * 4 + r)) ++ t).drop 6).take p.length = turn p r := by
      rw [show 8 * 4 + r = 8 * (bytes4 (ofB (headB p.length ++ p))).length + r from rfl, he, List.append_assoc, List.append_assoc]
      show (turn p r ++ t).take p.length = turn p r
      have : (turn p r).length = p.length := turn_length p r
      rw [← this, List.take_left]
    rw [e1, e2, e3, le_bytes4] at z5
    have hh : headB p.length ++ turn p r = turn (headB p.length ++ p) (8 * (headB p.length).length + r) := (turn_right _ _ _).symm
    rw [hh] at z5
    exact turn_told (headB p.length ++ p) _ (by rw [List.length_append, show (headB p.length).length = 2 from rfl]; omega) z5.symm
/-- The row with a bit turned. -/
theorem torn_scans (L : List (List Nat)) (k : Nat) (p : List Nat) (hp : L[k]? = some p) (hL : ∀ r ∈ L, r.length ≤ 1000) (q : Nat) (h1 : 16 ≤ q) (h2 : q < 8 * (6 + p.length)) :
    scans (turn (framesB L) (8 * ends (L.take k) + q)) = L.take k := by
  have hk := (List.getElem?_eq_some_iff.1 hp).1
  have hs : framesB L = framesB (L.take k) ++ (frameB p ++ framesB (L.drop (k + 1))) := by
    have e : L = L.take k ++ (p :: L.drop (k + 1)) := by
      obtain ⟨hk', rfl⟩ := List.getElem?_eq_some_iff.1 hp
      rw [← List.drop_eq_getElem_cons hk', List.take_append_drop]
    conv => lhs; rw [e]
    rw [framesB_append, framesB_cons]
  rw [hs, ← framesB_length, turn_right, turn_left _ _ q (by rw [frameB_length]; omega), scans_frames _ _ (fun r hr => hL r (List.mem_of_mem_take hr)), scans_no, List.append_nil]
  exact torn_no p _ (hL p (List.mem_of_getElem? hp)) q h1 h2
end Go.Proofs.Ytopdedhdfaomfaa
