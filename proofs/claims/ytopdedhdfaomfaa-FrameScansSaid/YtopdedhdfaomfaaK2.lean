/- The frames: plain: what Next reads, Pack has written; rows of frames. -/
import Derived.Test.YtopdedhdfaomfaaK
namespace Go.Proofs.Ytopdedhdfaomfaa
theorem bytes4_le (a b c d : Nat) (ha : a < 256) (hb : b < 256) (hc : c < 256) (hd : d < 256) : bytes4 (BitVec.ofNat 32 (le [a, b, c, d])) = [a, b, c, d] := by
  have h : (BitVec.ofNat 32 (le [a, b, c, d])).toNat = a + 256 * (b + 256 * (c + 256 * d)) := by
    rw [BitVec.toNat_ofNat]
    simp [le]
    omega
  unfold bytes4 byteOf
  rw [h]
  simp
  omega
theorem le_bytes4 (s : BitVec 32) : BitVec.ofNat 32 (le (bytes4 s)) = s := by
  apply BitVec.eq_of_toNat_eq
  have hs := s.isLt
  rw [BitVec.toNat_ofNat]
  simp only [bytes4, le, byteOf]
  simp
  omega
theorem six {c : List Nat} (h : 6 ≤ c.length) : ∃ c0 c1 c2 c3 c4 c5 r, c = c0 :: c1 :: c2 :: c3 :: c4 :: c5 :: r := by
  match c, h with
  | c0 :: c1 :: c2 :: c3 :: c4 :: c5 :: r, _ => exact ⟨_, _, _, _, _, _, _, rfl⟩
theorem frame_of_next {c : List Nat} (hlt : ∀ x ∈ c, x < 256) (h : nextE c = 0) : frameB (payload c) = c.take (6 + many c) := by
  obtain ⟨z1, z2, z3, z4⟩ := nextE_zero h
  have hpl := payload_length z3
  obtain ⟨c0, c1, c2, c3, c4, c5, r, rfl⟩ := six z1
  have h0 := hlt c0 (by simp)
  have h1 := hlt c1 (by simp)
  have h2 := hlt c2 (by simp)
  have h3 := hlt c3 (by simp)
  have h4 := hlt c4 (by simp)
  have h5 := hlt c5 (by simp)
  have hm : many (c0 :: c1 :: c2 :: c3 :: c4 :: c5 :: r) = c0 + 256 * c1 := rfl
  have hp : payload (c0 :: c1 :: c2 :: c3 :: c4 :: c5 :: r) = r.take (c0 + 256 * c1) := rfl
  have hs : BitVec.ofNat 32 (le [c2, c3, c4, c5]) = ofB ([c0, c1] ++ r.take (c0 + 256 * c1)) := by
    have := of_decide_eq_true z4
    exact this
  unfold frameB
  rw [hpl, hp, hm]
  have hh : headB (c0 + 256 * c1) = [c0, c1] := by
    unfold headB
    rw [show (c0 + 256 * c1) % 256 = c0 by omega, show (c0 + 256 * c1) / 256 % 256 = c1 by omega]
  rw [hh, ← hs, bytes4_le _ _ _ _ h2 h3 h4 h5, Nat.add_comm 6 (c0 + 256 * c1)]
  simp
theorem head_sums (p : List Nat) (hp : p.length ≤ 1000) : p.length % 256 + 256 * (p.length / 256 % 256) = p.length := by omega
theorem next_of_frame (p t : List Nat) (hp : p.length ≤ 1000) : nextE (frameB p ++ t) = 0 ∧ many (frameB p ++ t) = p.length ∧ payload (frameB p ++ t) = p ∧ (frameB p ++ t).drop (6 + p.length) = t := by
  have hm : many (frameB p ++ t) = p.length := by
    show p.length % 256 + 256 * (p.length / 256 % 256) = p.length
    exact head_sums p hp
  have hpay : payload (frameB p ++ t) = p := by
    unfold payload
    rw [hm]
    show (p ++ t).take p.length = p
    rw [List.take_left]
  have hdrop : (frameB p ++ t).drop (6 + p.length) = t := by
    rw [← frameB_length p, List.drop_left]
  refine ⟨?_, hm, hpay, hdrop⟩
  unfold nextE
  have hl : (frameB p ++ t).length = 6 + p.length + t.length := by rw [List.length_append, frameB_length]
  have hs : summed (frameB p ++ t) = true := by
    unfold summed
    rw [hpay]
    apply decide_eq_true
    show BitVec.ofNat 32 (le (bytes4 (ofB (headB p.length ++ p)))) = ofB (headB p.length ++ p)
    exact le_bytes4 _
  rw [if_neg (by rw [hl, hm]; omega), hs, if_pos rfl]
/-- A row of frames. -/
def framesB (l : List (List Nat)) : List Nat := (l.map frameB).flatten
theorem framesB_cons (p : List Nat) (l : List (List Nat)) : framesB (p :: l) = frameB p ++ framesB l := rfl
theorem framesB_append (l m : List (List Nat)) : framesB (l ++ m) = framesB l ++ framesB m := by simp [framesB]
theorem framesB_length (l : List (List Nat)) : (framesB l).length = ends l := by
  induction l with
  | nil => rfl
  | cons p l ih => rw [framesB_cons, List.length_append, frameB_length, ih, ends]
theorem framesB_lt (l : List (List Nat)) (h : ∀ p ∈ l, ∀ x ∈ p, x < 256) : ∀ x ∈ framesB l, x < 256 := by
  intro x hx
  obtain ⟨f, hf, hx⟩ := List.mem_flatten.1 hx
  obtain ⟨p, hp, rfl⟩ := List.mem_map.1 hf
  exact frameB_lt p (h p hp) x hx
theorem scans_frames (l : List (List Nat)) (t : List Nat) (h : ∀ p ∈ l, p.length ≤ 1000) : scans (framesB l ++ t) = l ++ scans t := by
  induction l with
  | nil => rfl
  | cons p l ih =>
    rw [framesB_cons, List.append_assoc]
    obtain ⟨n1, n2, n3, n4⟩ := next_of_frame p (framesB l ++ t) (h p (List.mem_cons_self ..))
    rw [scans_yes n1, n2, n3, n4, ih (fun q hq => h q (List.mem_cons_of_mem _ hq))]
    rfl
/-- What stands at place k of a scan. -/
theorem scans_at (b : List Nat) : ∀ k, k ≤ (scans b).length → Came b ((scans b).take k)
  | 0, _ => by rw [List.take_zero]; exact came_nil b
  | k + 1, hk => by
    have h := scans_at b k (by omega)
    have hne : nextE (b.drop (ends ((scans b).take k))) = 0 := by
      by_cases hz : nextE (b.drop (ends ((scans b).take k))) = 0
      · exact hz
      · exfalso
        have := congrArg List.length (Came.done h hz)
        rw [List.length_take] at this
        omega
    obtain ⟨h1, h2⟩ := Came.next h hne
    have hg : (scans b).take (k + 1) = (scans b).take k ++ [payload (b.drop (ends ((scans b).take k)))] := by
      have e := h.1
      rw [scans_yes hne] at e
      have hl : ((scans b).take k).length = k := by rw [List.length_take]; omega
      conv => lhs; rw [e]
      rw [List.take_append, hl, List.take_of_length_le (by omega), show k + 1 - k = 1 by omega]
      rfl
    rw [hg]
    exact h1
theorem scans_get {b : List Nat} {k : Nat} {p : List Nat} (h : (scans b)[k]? = some p) : Came b ((scans b).take k) ∧ nextE (b.drop (ends ((scans b).take k))) = 0 ∧ p = payload (b.drop (ends ((scans b).take k))) := by
  obtain ⟨hk, he⟩ := List.getElem?_eq_some_iff.1 h
  have hC := scans_at b k (by omega)
  have hne : nextE (b.drop (ends ((scans b).take k))) = 0 := by
    by_cases hz : nextE (b.drop (ends ((scans b).take k))) = 0
    · exact hz
    · exfalso
      have := congrArg List.length (Came.done hC hz)
      rw [List.length_take] at this
      omega
  refine ⟨hC, hne, ?_⟩
  have e := hC.1
  rw [scans_yes hne] at e
  have hl : ((scans b).take k).length = k := by rw [List.length_take]; omega
  have h2 := congrArg (fun l => l[k]?) e
  simp only [h] at h2
  rw [List.getElem?_append_right (by omega), hl, Nat.sub_self] at h2
  injection h2
end Go.Proofs.Ytopdedhdfaomfaa
