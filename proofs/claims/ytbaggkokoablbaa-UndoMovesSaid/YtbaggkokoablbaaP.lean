/- The document's two stacks, and how a row of states with a place stands for them. No program in sight. -/
import Derived.Test.YtbaggkokoablbaaF
namespace Go.Proofs.Ytbaggkokoablbaa

structure St where
  lim : Nat
  back : List ByteArray
  now : ByteArray
  forth : List ByteArray
  op : Int

def cut (lim : Nat) (l : List ByteArray) : List ByteArray := if lim < l.length then l.drop 1 else l

def St.step (st : St) (o : Op) : St × Bool :=
  if o.kind = 0 then
    if (o.s.toList == st.now.toList) = true then (st, false)
    else ({ lim := st.lim, back := if o.g ≤ 0 ∨ o.g ≠ st.op then cut st.lim (st.back ++ [st.now]) else st.back, now := o.s, forth := [], op := max o.g 0 }, true)
  else if o.kind = 1 then ({ st with now := o.s }, false)
  else if o.kind = 2 then ({ st with op := 0 }, false)
  else if o.kind = 3 then
    if st.back = [] then (st, false) else ({ lim := st.lim, back := st.back.dropLast, now := st.back.getLast?.getD ByteArray.empty, forth := st.forth ++ [st.now], op := 0 }, true)
  else if o.kind = 4 then
    if st.forth = [] then (st, false) else ({ lim := st.lim, back := st.back ++ [st.now], now := st.forth.getLast?.getD ByteArray.empty, forth := st.forth.dropLast, op := 0 }, true)
  else (st, false)

/-- The row of all its states. -/
def St.xs (st : St) : List ByteArray := st.back ++ st.now :: st.forth.reverse
structure St.Ok (st : St) : Prop where
  one : 1 ≤ st.lim
  most : st.lim ≤ 256
  room : st.back.length + st.forth.length ≤ st.lim

theorem St.xs_length (st : St) : st.xs.length = st.back.length + 1 + st.forth.length := by simp [St.xs]; omega
theorem St.xs_now (st : St) : st.xs[st.back.length]? = some st.now := by simp [St.xs]
theorem St.xs_back (st : St) (i : Nat) (h : i < st.back.length) : st.xs[i]? = st.back[i]? := by
  unfold St.xs; rw [List.getElem?_append_left h]
theorem St.take_back (st : St) : st.xs.take st.back.length = st.back := by
  unfold St.xs; exact List.take_left
theorem St.take_now (st : St) : st.xs.take (st.back.length + 1) = st.back ++ [st.now] := by
  unfold St.xs
  rw [show st.back ++ st.now :: st.forth.reverse = (st.back ++ [st.now]) ++ st.forth.reverse by simp]
  rw [show st.back.length + 1 = (st.back ++ [st.now]).length by simp]
  exact List.take_left

theorem St.step_ok {st : St} (h : st.Ok) (o : Op) : (st.step o).1.Ok := by
  obtain ⟨h1, h2, h3⟩ := h
  unfold St.step
  split
  · split
    · exact ⟨h1, h2, h3⟩
    · refine ⟨h1, h2, ?_⟩
      simp only [List.length_nil]
      split
      · unfold cut
        split
        · simp at *; omega
        · simp at *; omega
      · omega
  · split
    · exact ⟨h1, h2, h3⟩
    · split
      · exact ⟨h1, h2, h3⟩
      · split
        · split
          · exact ⟨h1, h2, h3⟩
          · next hb =>
            refine ⟨h1, h2, ?_⟩
            have : 0 < st.back.length := List.length_pos_iff.2 hb
            simp; omega
        · split
          · split
            · exact ⟨h1, h2, h3⟩
            · next hb =>
              refine ⟨h1, h2, ?_⟩
              have : 0 < st.forth.length := List.length_pos_iff.2 hb
              simp; omega
          · exact ⟨h1, h2, h3⟩

/-- A new state behind the one on which it stands: the row. -/
theorem St.do_new (st : St) (h : st.Ok) (s : ByteArray) (op : Int) :
    let st' : St := { lim := st.lim, back := cut st.lim (st.back ++ [st.now]), now := s, forth := [], op := op }
    (st.xs.take (st.back.length + 1) ++ [s]).drop (st.back.length + 1 - st.lim) = st'.xs ∧ min (st.back.length + 1) st.lim = st'.back.length := by
  obtain ⟨h1, h2, h3⟩ := h
  dsimp only
  rw [St.take_now]
  unfold St.xs cut
  simp only [List.reverse_nil]
  split
  · next hl =>
    rw [List.length_append, List.length_singleton] at hl
    have e : st.back.length + 1 - st.lim = 1 := by omega
    rw [e]
    refine ⟨?_, by simp; omega⟩
    rw [List.drop_append_of_le_length (by simp)]
  · next hl =>
    rw [List.length_append, List.length_singleton] at hl
    have e : st.back.length + 1 - st.lim = 0 := by omega
    rw [e]
    exact ⟨rfl, by simp; omega⟩

theorem St.do_group (st : St) (h : st.Ok) (s : ByteArray) (op : Int) :
    let st' : St := { lim := st.lim, back := st.back, now := s, forth := [], op := op }
    (st.xs.take st.back.length ++ [s]).drop (st.back.length - st.lim) = st'.xs ∧ min st.back.length st.lim = st'.back.length := by
  obtain ⟨h1, h2, h3⟩ := h
  dsimp only
  rw [St.take_back]
  have e : st.back.length - st.lim = 0 := by omega
  rw [e]
  exact ⟨rfl, by omega⟩

theorem St.move (st : St) (s : ByteArray) : st.xs.set st.back.length s = ({ st with now := s } : St).xs := by
  unfold St.xs
  rw [List.set_append_right _ _ (Nat.le_refl _)]
  simp

theorem getLast_get {l : List ByteArray} (h : l ≠ []) : l[l.length - 1]? = some (l.getLast?.getD ByteArray.empty) := by
  rw [← List.getLast?_eq_getElem?, List.getLast?_eq_some_getLast h]
  rfl

theorem dropLast_get {l : List ByteArray} (h : l ≠ []) : l.dropLast ++ [l.getLast?.getD ByteArray.empty] = l := by
  rw [List.getLast?_eq_some_getLast h]
  exact List.dropLast_concat_getLast h

theorem St.undo_xs (st : St) (h : st.back ≠ []) (op : Int) :
    ({ lim := st.lim, back := st.back.dropLast, now := st.back.getLast?.getD ByteArray.empty, forth := st.forth ++ [st.now], op := op } : St).xs = st.xs := by
  unfold St.xs
  simp only [List.reverse_append, List.reverse_singleton, List.singleton_append]
  conv => rhs; rw [← dropLast_get h]
  simp

theorem St.redo_xs (st : St) (h : st.forth ≠ []) (op : Int) :
    ({ lim := st.lim, back := st.back ++ [st.now], now := st.forth.getLast?.getD ByteArray.empty, forth := st.forth.dropLast, op := op } : St).xs = st.xs := by
  unfold St.xs
  have e : st.forth.reverse = (st.forth.getLast?.getD ByteArray.empty) :: st.forth.dropLast.reverse := by
    conv => lhs; rw [← dropLast_get h]
    simp
  rw [e]
  simp

end Go.Proofs.Ytbaggkokoablbaa
