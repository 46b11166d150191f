/- Undo and Redo over the document's two stacks. -/
import Derived.Test.YtbaggkokoablbaaD
namespace Go.Proofs.Ytbaggkokoablbaa
open Go.RowKit Go.BigFrame

def lastOf (l : List ByteArray) : ByteArray := l.getLast?.getD ByteArray.empty
def St.undone (st : St) : St := { lim := st.lim, back := st.back.dropLast, now := lastOf st.back, forth := st.forth ++ [st.now], op := 0 }
def St.redone (st : St) : St := { lim := st.lim, back := st.back ++ [st.now], now := lastOf st.forth, forth := st.forth.dropLast, op := 0 }
def St.closed (st : St) : St := { st with op := 0 }

theorem St.undone_ok {st : St} (h : st.Ok) (hb : st.back ≠ []) : st.undone.Ok := by
  have := h.room
  have hp : 0 < st.back.length := List.length_pos_iff.2 hb
  exact ⟨h.one, h.most, by simp [St.undone]; omega⟩
theorem St.redone_ok {st : St} (h : st.Ok) (hb : st.forth ≠ []) : st.redone.Ok := by
  have := h.room
  have hp : 0 < st.forth.length := List.length_pos_iff.2 hb
  exact ⟨h.one, h.most, by simp [St.redone]; omega⟩
theorem St.closed_ok {st : St} (h : st.Ok) : st.closed.Ok := ⟨h.one, h.most, h.room⟩

theorem lastOf_snoc (l : List ByteArray) (x : ByteArray) : lastOf (l ++ [x]) = x := by simp [lastOf]
theorem St.undone_forth (st : St) : st.undone.forth ≠ [] := by simp [St.undone]
theorem St.redone_back (st : St) : st.redone.back ≠ [] := by simp [St.redone]
theorem St.undone_redone {st : St} (hb : st.back ≠ []) : st.undone.redone = st.closed := by
  unfold St.redone St.undone St.closed
  simp only [lastOf_snoc, List.dropLast_concat]
  have e : st.back.dropLast ++ [lastOf st.back] = st.back := dropLast_get hb
  rw [e]
theorem St.redone_undone {st : St} (hb : st.forth ≠ []) : st.redone.undone = st.closed := by
  unfold St.redone St.undone St.closed
  simp only [lastOf_snoc, List.dropLast_concat]
  have e : st.forth.dropLast ++ [lastOf st.forth] = st.forth := dropLast_get hb
  rw [e]

theorem undoYes_st {b r : Nat} {st : St} {w : World} (h : LogSt w b r st) (ok : st.Ok) (hb : st.back ≠ []) :
    Calls Try.prog 13 #[.pointer (some ⟨b, 0, none⟩)] w fun e w' => e = .returned (.tuple #[.string (lastOf st.back), .bool true]) ∧ LogSt w' b r st.undone ∧ Keep (· = b) w w' := by
  have hpos : 0 < st.back.length := List.length_pos_iff.2 hb
  have h0 : Log_s w b r st.lim st.xs (st.back.length - 1 + 1) st.op := by rw [Nat.sub_add_cancel hpos]; exact h
  refine (undoYes_s (v := lastOf st.back) h0 (ok_len ok) (by rw [st.xs_back _ (by omega)]; exact getLast_get hb)).mono ?_
  rintro e w' ⟨rfl, HL, hk⟩
  refine ⟨rfl, ?_, hk⟩
  have e2 := st.undo_xs hb 0
  show Log_s w' b r st.lim st.undone.xs st.back.dropLast.length 0
  rw [List.length_dropLast]
  have e3 : st.undone.xs = st.xs := e2
  rw [e3]
  exact HL

theorem undoNo_st {b r : Nat} {st : St} {w : World} (h : LogSt w b r st) (ok : st.Ok) (hb : st.back = []) :
    Calls Try.prog 13 #[.pointer (some ⟨b, 0, none⟩)] w fun e w' => e = .returned (.tuple #[.string st.now, .bool false]) ∧ ∃ k, w' = w.drewN k := by
  have e0 : st.back.length = 0 := by rw [hb]; rfl
  have h0 : Log_s w b r st.lim st.xs 0 st.op := by rw [← e0]; exact h
  exact undoNo_s (v := st.now) h0 (ok_len ok) (by rw [← e0]; exact st.xs_now)

theorem redoYes_st {b r : Nat} {st : St} {w : World} (h : LogSt w b r st) (ok : st.Ok) (hb : st.forth ≠ []) :
    Calls Try.prog 25 #[.pointer (some ⟨b, 0, none⟩)] w fun e w' => e = .returned (.tuple #[.string (lastOf st.forth), .bool true]) ∧ LogSt w' b r st.redone ∧ Keep (· = b) w w' := by
  have e3 : st.redone.xs = st.xs := st.redo_xs hb 0
  have e4 : st.redone.back.length = st.back.length + 1 := by simp [St.redone]
  have hx := St.xs_now st.redone
  rw [e3, e4] at hx
  refine (redoYes_s (v := lastOf st.forth) h (ok_len ok) hx).mono ?_
  rintro e w' ⟨rfl, HL, hk⟩
  refine ⟨rfl, ?_, hk⟩
  show Log_s w' b r st.lim st.redone.xs st.redone.back.length 0
  rw [e3, e4]
  exact HL

theorem redoNo_st {b r : Nat} {st : St} {w : World} (h : LogSt w b r st) (ok : st.Ok) (hb : st.forth = []) :
    Calls Try.prog 25 #[.pointer (some ⟨b, 0, none⟩)] w fun e w' => e = .returned (.tuple #[.string st.now, .bool false]) ∧ ∃ k, w' = w.drewN k :=
  redoNo_s (v := st.now) h (ok_len ok) (by rw [St.xs_length, hb]; rfl) st.xs_now

theorem now_st {b r : Nat} {st : St} {w : World} (h : LogSt w b r st) (ok : st.Ok) :
    Calls Try.prog 26 #[.pointer (some ⟨b, 0, none⟩)] w fun e w' => e = .returned (.string st.now) ∧ ∃ k, w' = w.drewN k := now_s h (ok_len ok) st.xs_now

theorem new_st (limit : Int) (w : World) : Calls Try.prog 10 #[.string ⟨#[]⟩, .int .i64 limit] w fun e w' =>
    ∃ (b r lim : Nat), e = .returned (.pointer (some ⟨b, 0, none⟩)) ∧ LogSt w' b r { lim := lim, back := [], now := ⟨#[]⟩, forth := [], op := 0 } ∧ (lim : Int) = min (max limit 1) 256 ∧ w.heap.size ≤ b ∧ w.heap.size ≤ r ∧ Keep (fun _ => False) w w' :=
  (new_s ⟨#[]⟩ limit w).mono fun _ _ ⟨b, r, lim, he, hl, h1, h2, h3, h4⟩ => ⟨b, r, lim, he, hl, h1, h2, h3, h4⟩
end Go.Proofs.Ytbaggkokoablbaa
