/- FrameBack walked: the row of frames is packed. -/
import Derived.Test.YtopdedhdfaomfaaLe
namespace Go.Proofs.Ytopdedhdfaomfaa
open Go.RowKit Go.BigFrame
theorem ends_map {l : List (List Nat)} {k : Nat} {p : List Nat} (h : l[k]? = some p) : framesB (l.take (k + 1)) = framesB (l.take k) ++ frameB p := by
  obtain ⟨hk, rfl⟩ := List.getElem?_eq_some_iff.1 h
  rw [List.take_succ_eq_append_getElem hk, framesB_append]
  simp [framesB]
/-- What a frame's first bytes are read as. -/
theorem half_frame (p : List Nat) (hp : p.length ≤ 1000) (k : Nat) (hk : k < (frameB p).length) : nextE ((frameB p).take k) ≠ 0 := by
  intro h
  obtain ⟨z1, z2, z3, _⟩ := nextE_zero h
  rw [List.length_take] at z1 z3
  have hfl := frameB_length p
  have hm : many ((frameB p).take k) = p.length := by
    obtain ⟨c0, c1, c2, c3, c4, c5, r, hc⟩ := six (c := frameB p) (by omega)
    have h1 := (next_of_frame p [] hp).2.1
    rw [List.append_nil] at h1
    rw [hc] at h1 ⊢
    obtain ⟨m, rfl⟩ : ∃ m, k = m + 6 := ⟨k - 6, by omega⟩
    exact h1
  omega
theorem noughts_no (n : Nat) : nextE (List.replicate n 0) ≠ 0 := by
  intro h
  obtain ⟨z1, z2, z3, z4⟩ := nextE_zero h
  rw [List.length_replicate] at z1 z3
  obtain ⟨m, rfl⟩ : ∃ m, n = m + 6 := ⟨n - 6, by omega⟩
  have hs : summed (List.replicate (m + 6) 0) = decide (BitVec.ofNat 32 (le [0, 0, 0, 0]) = ofB [0, 0]) := rfl
  rw [hs] at z4
  have h1 := of_decide_eq_true z4
  have h2 : ofB [0, 0] = 0x41d912ff#32 := by kernel_rfl
  rw [h2] at h1
  exact absurd h1 (by decide)
theorem nil_no : nextE [] ≠ 0 := by decide
end Go.Proofs.Ytopdedhdfaomfaa
