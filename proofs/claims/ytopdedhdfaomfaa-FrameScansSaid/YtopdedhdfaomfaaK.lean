/- The frames: plain. -/
import Derived.Test.YtopdedhdfaomfaaW
namespace Go.Proofs.Ytopdedhdfaomfaa
def bytes4 (s : BitVec 32) : List Nat := [byteOf s 0, byteOf s 1, byteOf s 2, byteOf s 3]
theorem bytes4_lt (s : BitVec 32) : ∀ x ∈ bytes4 s, x < 256 := by
  intro x hx
  simp [bytes4, byteOf] at hx
  omega
theorem ofB_snoc (a b : List Nat) : ~~~(addB (~~~(ofB a)) b) = ofB (a ++ b) := by
  unfold ofB
  rw [addB_append, BitVec.not_not]
/-- What stands ahead of a payload of n bytes: its length. -/
def headB (n : Nat) : List Nat := [n % 256, n / 256 % 256]
/-- A payload's frame. -/
def frameB (p : List Nat) : List Nat := headB p.length ++ (bytes4 (ofB (headB p.length ++ p)) ++ p)
theorem frameB_length (p : List Nat) : (frameB p).length = 6 + p.length := by simp [frameB, headB, bytes4]; omega
theorem headB_lt (n : Nat) : ∀ x ∈ headB n, x < 256 := by
  intro x hx
  simp [headB] at hx
  omega
theorem frameB_lt (p : List Nat) (h : ∀ x ∈ p, x < 256) : ∀ x ∈ frameB p, x < 256 := by
  intro x hx
  simp only [frameB, List.mem_append] at hx
  rcases hx with hx | hx | hx
  · exact headB_lt _ x hx
  · exact bytes4_lt _ x hx
  · exact h x hx
def many (b : List Nat) : Nat := b.getD 0 0 + 256 * b.getD 1 0
def payload (b : List Nat) : List Nat := (b.drop 6).take (many b)
def summed (b : List Nat) : Bool := decide (BitVec.ofNat 32 (le ((b.drop 2).take 4)) = ofB (b.take 2 ++ payload b))
/-- What Next answers: 0, or why there is no frame. -/
def nextE (b : List Nat) : Nat := if b.length < 6 ∨ 1000 < many b ∨ b.length < 6 + many b then 110 else if summed b then 0 else 111
theorem nextE_zero {b : List Nat} (h : nextE b = 0) : 6 ≤ b.length ∧ many b ≤ 1000 ∧ 6 + many b ≤ b.length ∧ summed b = true := by
  unfold nextE at h
  split at h
  · cases h
  · split at h
    · next h1 h2 => exact ⟨by omega, by omega, by omega, h2⟩
    · cases h
theorem nextE_le (b : List Nat) : nextE b ≤ 111 := by
  unfold nextE
  split
  · omega
  · split <;> omega
theorem payload_length {b : List Nat} (h : 6 + many b ≤ b.length) : (payload b).length = many b := by
  unfold payload
  rw [List.length_take, List.length_drop]
  omega
/-- All payloads. -/
def scans (b : List Nat) : List (List Nat) :=
  if h : nextE b = 0 then payload b :: scans (b.drop (6 + many b)) else []
termination_by b.length
decreasing_by
  have := nextE_zero h
  rw [List.length_drop]
  omega
theorem scans_yes {b : List Nat} (h : nextE b = 0) : scans b = payload b :: scans (b.drop (6 + many b)) := by
  rw [scans, dif_pos h]
theorem scans_no {b : List Nat} (h : nextE b ≠ 0) : scans b = [] := by
  rw [scans, dif_neg h]
/-- How many bytes their frames have. -/
def ends : List (List Nat) → Nat
  | [] => 0
  | p :: ps => 6 + p.length + ends ps
theorem ends_append (l m : List (List Nat)) : ends (l ++ m) = ends l + ends m := by
  induction l with
  | nil => simp [ends]
  | cons p ps ih => simp only [List.cons_append, ends, ih]; omega
theorem ends_snoc (l : List (List Nat)) (p : List Nat) : ends (l ++ [p]) = ends l + (6 + p.length) := by
  rw [ends_append]; simp [ends]
/-- pre has been scanned. -/
def Came (b : List Nat) (pre : List (List Nat)) : Prop := scans b = pre ++ scans (b.drop (ends pre)) ∧ ends pre ≤ b.length
theorem came_nil (b : List Nat) : Came b [] := ⟨by simp [ends], by simp [ends]⟩
theorem Came.next {b : List Nat} {pre : List (List Nat)} (h : Came b pre) (hz : nextE (b.drop (ends pre)) = 0) :
    Came b (pre ++ [payload (b.drop (ends pre))]) ∧ ends (pre ++ [payload (b.drop (ends pre))]) = ends pre + (6 + many (b.drop (ends pre))) := by
  obtain ⟨h1, h2⟩ := h
  obtain ⟨z1, z2, z3, _⟩ := nextE_zero hz
  have hl := payload_length z3
  rw [List.length_drop] at z3
  have he : ends (pre ++ [payload (b.drop (ends pre))]) = ends pre + (6 + many (b.drop (ends pre))) := by rw [ends_snoc, hl]
  refine ⟨⟨?_, by rw [he]; omega⟩, he⟩
  rw [h1, scans_yes hz, he, List.drop_drop]
  simp
theorem Came.done {b : List Nat} {pre : List (List Nat)} (h : Came b pre) (hz : nextE (b.drop (ends pre)) ≠ 0) : scans b = pre := by
  rw [h.1, scans_no hz, List.append_nil]
theorem scans_ends (b : List Nat) : ends (scans b) ≤ b.length := by
  generalize hn : b.length = n
  induction n using Nat.strongRecOn generalizing b with
  | _ n ih =>
    by_cases hz : nextE b = 0
    · obtain ⟨z1, z2, z3, _⟩ := nextE_zero hz
      rw [scans_yes hz, ends, payload_length z3]
      have := ih (b.drop (6 + many b)).length (by rw [List.length_drop]; omega) _ rfl
      rw [List.length_drop] at this
      omega
    · rw [scans_no hz]; simp [ends]
theorem ends_ge (l : List (List Nat)) : 6 * l.length ≤ ends l := by
  induction l with
  | nil => simp [ends]
  | cons p ps ih => simp only [ends, List.length_cons]; omega
end Go.Proofs.Ytopdedhdfaomfaa
