/- 'does': a call of the script, over the log. -/
import Derived.Test.YtbaggkokoablbaaC
import Derived.Test.YtbaggkokoablbaaP
namespace Go.Proofs.Ytbaggkokoablbaa
open Go.RowKit Go.BigFrame

abbrev LogSt (w : World) (b r : Nat) (st : St) : Prop := Log_s w b r st.lim st.xs st.back.length st.op

def DoesPost (w : World) (b r : Nat) (st : St) (flag : Bool) (e : Ending) (w' : World) : Prop :=
  ∃ b' r', e = .returned (.tuple #[.pointer (some ⟨b', 0, none⟩), .string st.now, .bool flag]) ∧ LogSt w' b' r' st ∧ (b' = b ∨ w.heap.size ≤ b') ∧ (r' = r ∨ w.heap.size ≤ r') ∧ Keep (fun k => k = b ∨ k = r) w w'

theorem does_end {w w' : World} {b r b' r' : Nat} {st st' : St} {flag : Bool} {u : ByteArray} (hst : st' = st) (hu : u = st.now) (h : LogSt w' b' r' st) (hb : b' = b ∨ w.heap.size ≤ b') (hr : r' = r ∨ w.heap.size ≤ r') (hk : Keep (fun k => k = b ∨ k = r) w w') :
    DoesPost w b r st' flag (.returned (.tuple #[.pointer (some ⟨b', 0, none⟩), .string u, .bool flag])) w' := by
  subst hst hu
  exact ⟨b', r', rfl, h, hb, hr, hk⟩

theorem ok_len {st : St} (h : st.Ok) : st.xs.length ≤ 1000 := by
  rw [St.xs_length]; have := h.room; have := h.most; omega

/-- The text "none". -/
def noneS : ByteArray := ⟨#[110, 111, 110, 101]⟩

theorem LogSt.box {w : World} {b r : Nat} {st : St} (h : LogSt w b r st) (o : Obj) : LogSt (w.alloc o) b r st := h.keep ((Keep.refl (fun _ => False) w).alloc _) (fun h => h) (fun h => h)
theorem keep_box (S : Nat → Prop) (w : World) (o : Obj) : Keep S w (w.alloc o) := (Keep.refl S w).alloc o

set_option maxHeartbeats 1000000 in
theorem does_do_same {b r : Nat} {st : St} {s : ByteArray} {g : Int} {w : World} (h : LogSt w b r st) (ok : st.Ok) (hs : (s.toList == st.now.toList) = true) :
    Calls Try.prog 22 #[.pointer (some ⟨b, 0, none⟩), .agg #[.int .i64 0, .string s, .int .i64 g]] w (DoesPost w b r (st.step ⟨0, s, g⟩).1 (st.step ⟨0, s, g⟩).2) := by
  have e1 : st.step ⟨0, s, g⟩ = (st, false) := by unfold St.step; rw [if_pos rfl]; exact if_pos hs
  rw [e1]
  have H := Lib.hid h
  have hn := ok_len ok
  have h1 := ok.one
  have h2 := ok.most
  have HX := Lib.hid st.xs_now
  have HS := Lib.hid hs
  clear hs
  clear h e1
  have HBX := Lib.hid (H.out.box (.cells #[.int .i64 0, .string s, .int .i64 g] 44))
  have HKX := Lib.hid (keep_box (fun k => k = b ∨ k = r) w (.cells #[.int .i64 0, .string s, .int .i64 g] 44))
  go_enter Try.func22, Try.ntmps22
  go_wp2_with fail
  refine (doSame_s (s := s) (v := st.now) g HBX.out hn HX.out HS.out).mono ?_
  rintro e w1 ⟨rfl, k, rfl⟩
  go_wp2_with fail
  refine (now_s (v := st.now) (HBX.out.drewN k) hn HX.out).mono ?_
  rintro e w2 ⟨rfl, k2, rfl⟩
  go_wp2
  go_ret3
  exact does_end rfl rfl HBX.out (.inl rfl) (.inl rfl) (HKX.out.drewN _)

set_option maxHeartbeats 1000000 in
theorem does_do_newA {b r : Nat} {st : St} {s : ByteArray} {g : Int} {w : World} (h : LogSt w b r st) (ok : st.Ok) (hs : (s.toList == st.now.toList) = false) (hg : g ≤ 0) :
    Calls Try.prog 22 #[.pointer (some ⟨b, 0, none⟩), .agg #[.int .i64 0, .string s, .int .i64 g]] w (DoesPost w b r (st.step ⟨0, s, g⟩).1 (st.step ⟨0, s, g⟩).2) := by
  have e1 : st.step ⟨0, s, g⟩ = (({ lim := st.lim, back := cut st.lim (st.back ++ [st.now]), now := s, forth := [], op := max g 0 } : St), true) := by
    unfold St.step
    rw [if_pos rfl, if_neg (by rw [hs]; exact Bool.false_ne_true)]
    dsimp only
    rw [if_pos (.inl hg)]
  rw [e1]
  have H := Lib.hid h
  have hn := ok_len ok
  have h1 := ok.one
  have h2 := ok.most
  have HX := Lib.hid st.xs_now
  have HS := Lib.hid hs
  have OK := Lib.hid ok
  have OK1 : Hid (({ lim := st.lim, back := cut st.lim (st.back ++ [st.now]), now := s, forth := [], op := max g 0 } : St).Ok) := by have := St.step_ok ok ⟨0, s, g⟩; rw [e1] at this; exact this
  clear hs
  clear h e1
  have HBX := Lib.hid (H.out.box (.cells #[.int .i64 0, .string s, .int .i64 g] 44))
  have HKX := Lib.hid (keep_box (fun k => k = b ∨ k = r) w (.cells #[.int .i64 0, .string s, .int .i64 g] 44))
  go_enter Try.func22, Try.ntmps22
  go_wp2_with fail
  refine (doNewA_s (s := s) (v := st.now) (g := g) HBX.out hn h1 h2 HX.out HS.out hg).mono ?_
  rintro e w1 ⟨r1, rfl, HL, hr1, hk1⟩
  have HL1 : Hid (LogSt w1 b r1 ({ lim := st.lim, back := cut st.lim (st.back ++ [st.now]), now := s, forth := [], op := max g 0 } : St)) := by
    have e2 := st.do_new OK.out s (max g 0)
    dsimp only at e2
    rw [e2.1, e2.2] at HL
    exact HL
  have HK1 := Lib.hid (HKX.out.trans hk1 (fun i _ e => .inl e))
  have hr1' : w.heap.size ≤ r1 := Nat.le_trans HKX.out.size hr1
  have HN1 := Lib.hid (St.xs_now ({ lim := st.lim, back := cut st.lim (st.back ++ [st.now]), now := s, forth := [], op := max g 0 } : St))
  have hn1 : ({ lim := st.lim, back := cut st.lim (st.back ++ [st.now]), now := s, forth := [], op := max g 0 } : St).xs.length ≤ 1000 := ok_len OK1.out
  clear HL hk1 hr1
  go_wp2_with fail
  refine (now_s HL1.out hn1 HN1.out).mono ?_
  rintro e w2 ⟨rfl, k2, rfl⟩
  clear hn1
  go_wp2
  go_ret3
  exact does_end rfl rfl (HL1.out.drewN _) (.inl rfl) (.inr hr1') (HK1.out.drewN _)

set_option maxHeartbeats 1000000 in
theorem does_do_newB {b r : Nat} {st : St} {s : ByteArray} {g : Int} {w : World} (h : LogSt w b r st) (ok : st.Ok) (hs : (s.toList == st.now.toList) = false) (hg : 0 < g) (ho : g ≠ st.op) :
    Calls Try.prog 22 #[.pointer (some ⟨b, 0, none⟩), .agg #[.int .i64 0, .string s, .int .i64 g]] w (DoesPost w b r (st.step ⟨0, s, g⟩).1 (st.step ⟨0, s, g⟩).2) := by
  have e1 : st.step ⟨0, s, g⟩ = (({ lim := st.lim, back := cut st.lim (st.back ++ [st.now]), now := s, forth := [], op := max g 0 } : St), true) := by
    unfold St.step
    rw [if_pos rfl, if_neg (by rw [hs]; exact Bool.false_ne_true)]
    dsimp only
    rw [if_pos (.inr ho)]
  rw [e1]
  have H := Lib.hid h
  have hn := ok_len ok
  have h1 := ok.one
  have h2 := ok.most
  have HX := Lib.hid st.xs_now
  have HS := Lib.hid hs
  have OK := Lib.hid ok
  have OK1 : Hid (({ lim := st.lim, back := cut st.lim (st.back ++ [st.now]), now := s, forth := [], op := max g 0 } : St).Ok) := by have := St.step_ok ok ⟨0, s, g⟩; rw [e1] at this; exact this
  have HO := Lib.hid ho
  clear ho
  clear hs
  clear h e1
  have HBX := Lib.hid (H.out.box (.cells #[.int .i64 0, .string s, .int .i64 g] 44))
  have HKX := Lib.hid (keep_box (fun k => k = b ∨ k = r) w (.cells #[.int .i64 0, .string s, .int .i64 g] 44))
  go_enter Try.func22, Try.ntmps22
  go_wp2_with fail
  refine (doNewB_s (s := s) (v := st.now) (g := g) HBX.out hn h1 h2 HX.out HS.out hg (by simpa using HO.out)).mono ?_
  rintro e w1 ⟨r1, rfl, HL, hr1, hk1⟩
  have HL1 : Hid (LogSt w1 b r1 ({ lim := st.lim, back := cut st.lim (st.back ++ [st.now]), now := s, forth := [], op := max g 0 } : St)) := by
    have e2 := st.do_new OK.out s (max g 0)
    dsimp only at e2
    rw [e2.1, e2.2] at HL
    exact HL
  have HK1 := Lib.hid (HKX.out.trans hk1 (fun i _ e => .inl e))
  have hr1' : w.heap.size ≤ r1 := Nat.le_trans HKX.out.size hr1
  have HN1 := Lib.hid (St.xs_now ({ lim := st.lim, back := cut st.lim (st.back ++ [st.now]), now := s, forth := [], op := max g 0 } : St))
  have hn1 : ({ lim := st.lim, back := cut st.lim (st.back ++ [st.now]), now := s, forth := [], op := max g 0 } : St).xs.length ≤ 1000 := ok_len OK1.out
  clear HL hk1 hr1
  go_wp2_with fail
  refine (now_s HL1.out hn1 HN1.out).mono ?_
  rintro e w2 ⟨rfl, k2, rfl⟩
  clear hn1
  go_wp2
  go_ret3
  exact does_end rfl rfl (HL1.out.drewN _) (.inl rfl) (.inr hr1') (HK1.out.drewN _)

set_option maxHeartbeats 1000000 in
theorem does_do_newC {b r : Nat} {st : St} {s : ByteArray} {g : Int} {w : World} (h : LogSt w b r st) (ok : st.Ok) (hs : (s.toList == st.now.toList) = false) (hg : 0 < g) (ho : g = st.op) :
    Calls Try.prog 22 #[.pointer (some ⟨b, 0, none⟩), .agg #[.int .i64 0, .string s, .int .i64 g]] w (DoesPost w b r (st.step ⟨0, s, g⟩).1 (st.step ⟨0, s, g⟩).2) := by
  have e1 : st.step ⟨0, s, g⟩ = (({ lim := st.lim, back := st.back, now := s, forth := [], op := max g 0 } : St), true) := by
    unfold St.step
    rw [if_pos rfl, if_neg (by rw [hs]; exact Bool.false_ne_true)]
    dsimp only
    rw [if_neg (by simp only [not_or, Decidable.not_not]; exact ⟨by omega, ho⟩)]
  rw [e1]
  have H := Lib.hid h
  have hn := ok_len ok
  have h1 := ok.one
  have h2 := ok.most
  have HX := Lib.hid st.xs_now
  have HS := Lib.hid hs
  have OK := Lib.hid ok
  have OK1 : Hid (({ lim := st.lim, back := st.back, now := s, forth := [], op := max g 0 } : St).Ok) := by have := St.step_ok ok ⟨0, s, g⟩; rw [e1] at this; exact this
  have HO := Lib.hid ho
  clear ho
  clear hs
  clear h e1
  have HBX := Lib.hid (H.out.box (.cells #[.int .i64 0, .string s, .int .i64 g] 44))
  have HKX := Lib.hid (keep_box (fun k => k = b ∨ k = r) w (.cells #[.int .i64 0, .string s, .int .i64 g] 44))
  go_enter Try.func22, Try.ntmps22
  go_wp2_with fail
  refine (doNewC_s (s := s) (v := st.now) (g := g) HBX.out hn h1 h2 HX.out HS.out hg (by simpa using HO.out)).mono ?_
  rintro e w1 ⟨r1, rfl, HL, hr1, hk1⟩
  have HL1 : Hid (LogSt w1 b r1 ({ lim := st.lim, back := st.back, now := s, forth := [], op := max g 0 } : St)) := by
    have e2 := st.do_group OK.out s (max g 0)
    dsimp only at e2
    rw [e2.1, e2.2] at HL
    exact HL
  have HK1 := Lib.hid (HKX.out.trans hk1 (fun i _ e => .inl e))
  have hr1' : w.heap.size ≤ r1 := Nat.le_trans HKX.out.size hr1
  have HN1 := Lib.hid (St.xs_now ({ lim := st.lim, back := st.back, now := s, forth := [], op := max g 0 } : St))
  have hn1 : ({ lim := st.lim, back := st.back, now := s, forth := [], op := max g 0 } : St).xs.length ≤ 1000 := ok_len OK1.out
  clear HL hk1 hr1
  go_wp2_with fail
  refine (now_s HL1.out hn1 HN1.out).mono ?_
  rintro e w2 ⟨rfl, k2, rfl⟩
  clear hn1
  go_wp2
  go_ret3
  exact does_end rfl rfl (HL1.out.drewN _) (.inl rfl) (.inr hr1') (HK1.out.drewN _)

set_option maxHeartbeats 1000000 in
theorem does_move {b r : Nat} {st : St} {s : ByteArray} {g : Int} {w : World} (h : LogSt w b r st) (ok : st.Ok)  :
    Calls Try.prog 22 #[.pointer (some ⟨b, 0, none⟩), .agg #[.int .i64 1, .string s, .int .i64 g]] w (DoesPost w b r (st.step ⟨1, s, g⟩).1 (st.step ⟨1, s, g⟩).2) := by
  have e1 : st.step ⟨1, s, g⟩ = ({ st with now := s }, false) := by unfold St.step; rw [if_neg (by dsimp only; decide), if_pos rfl]
  rw [e1]
  have H := Lib.hid h
  have hn := ok_len ok
  have h1 := ok.one
  have h2 := ok.most
  have HX := Lib.hid st.xs_now
  clear h e1
  have HBX := Lib.hid (H.out.box (.cells #[.int .i64 1, .string s, .int .i64 g] 44))
  have HKX := Lib.hid (keep_box (fun k => k = b ∨ k = r) w (.cells #[.int .i64 1, .string s, .int .i64 g] 44))
  go_enter Try.func22, Try.ntmps22
  go_wp2_with fail
  refine (move_s s HBX.out hn).mono ?_
  rintro e w1 ⟨rfl, HL, hk1⟩
  have HL1 : Hid (LogSt w1 b r ({ st with now := s } : St)) := by
    rw [st.move s] at HL
    exact HL
  have HK1 := Lib.hid (HKX.out.trans hk1 (fun i _ e => .inr e))
  have HN1 := Lib.hid (St.xs_now ({ st with now := s } : St))
  have hn1 : ({ st with now := s } : St).xs.length ≤ 1000 := by rw [St.xs_length]; rw [St.xs_length] at hn; exact hn
  clear HL hk1
  go_wp2_with fail
  refine (now_s HL1.out hn1 HN1.out).mono ?_
  rintro e w2 ⟨rfl, k2, rfl⟩
  clear hn1
  go_wp2
  go_ret3
  exact does_end rfl rfl (HL1.out.drewN _) (.inl rfl) (.inl rfl) (HK1.out.drewN _)

set_option maxHeartbeats 1000000 in
theorem does_break {b r : Nat} {st : St} {s : ByteArray} {g : Int} {w : World} (h : LogSt w b r st) (ok : st.Ok)  :
    Calls Try.prog 22 #[.pointer (some ⟨b, 0, none⟩), .agg #[.int .i64 2, .string s, .int .i64 g]] w (DoesPost w b r (st.step ⟨2, s, g⟩).1 (st.step ⟨2, s, g⟩).2) := by
  have e1 : st.step ⟨2, s, g⟩ = ({ st with op := 0 }, false) := by unfold St.step; rw [if_neg (by dsimp only; decide), if_neg (by dsimp only; decide), if_pos rfl]
  rw [e1]
  have H := Lib.hid h
  have hn := ok_len ok
  have h1 := ok.one
  have h2 := ok.most
  have HX := Lib.hid st.xs_now
  clear h e1
  have HBX := Lib.hid (H.out.box (.cells #[.int .i64 2, .string s, .int .i64 g] 44))
  have HKX := Lib.hid (keep_box (fun k => k = b ∨ k = r) w (.cells #[.int .i64 2, .string s, .int .i64 g] 44))
  go_enter Try.func22, Try.ntmps22
  go_wp2_with fail
  refine (break_s HBX.out).mono ?_
  rintro e w1 ⟨rfl, HL, hk1⟩
  have HL1 : Hid (LogSt w1 b r ({ st with op := 0 } : St)) := HL
  have HK1 := Lib.hid (HKX.out.trans hk1 (fun i _ e => .inl e))
  clear HL hk1
  go_wp2_with fail
  refine (now_s (v := st.now) HL1.out hn HX.out).mono ?_
  rintro e w2 ⟨rfl, k2, rfl⟩
  go_wp2
  go_ret3
  exact does_end rfl rfl (HL1.out.drewN _) (.inl rfl) (.inl rfl) (HK1.out.drewN _)

set_option maxHeartbeats 1000000 in
theorem does_undoNo {b r : Nat} {st : St} {s : ByteArray} {g : Int} {w : World} (h : LogSt w b r st) (ok : st.Ok) (hb : st.back = []) :
    Calls Try.prog 22 #[.pointer (some ⟨b, 0, none⟩), .agg #[.int .i64 3, .string s, .int .i64 g]] w (DoesPost w b r (st.step ⟨3, s, g⟩).1 (st.step ⟨3, s, g⟩).2) := by
  have e1 : st.step ⟨3, s, g⟩ = (st, false) := by unfold St.step; rw [if_neg (by dsimp only; decide), if_neg (by dsimp only; decide), if_neg (by dsimp only; decide), if_pos rfl]; exact if_pos hb
  rw [e1]
  have H := Lib.hid h
  have hn := ok_len ok
  have h1 := ok.one
  have h2 := ok.most
  have HX := Lib.hid st.xs_now
  have HB0 : ∀ w' : World, LogSt w' b r st → Log_s w' b r st.lim st.xs 0 st.op := by
    intro w' h'
    have e0 : st.back.length = 0 := by rw [hb]; rfl
    rw [← e0]
    exact h'
  have HX0 : Hid (st.xs[0]? = some st.now) := by
    have e0 : st.back.length = 0 := by rw [hb]; rfl
    rw [← e0]
    exact HX.out
  clear hb
  clear h e1
  have HBX := Lib.hid (H.out.box (.cells #[.int .i64 3, .string s, .int .i64 g] 44))
  have HKX := Lib.hid (keep_box (fun k => k = b ∨ k = r) w (.cells #[.int .i64 3, .string s, .int .i64 g] 44))
  go_enter Try.func22, Try.ntmps22
  go_wp2_with fail
  refine (undoNo_s (v := st.now) (HB0 _ HBX.out) hn HX0.out).mono ?_
  rintro e w1 ⟨rfl, k, rfl⟩
  go_wp2
  go_ret3
  exact does_end rfl rfl HBX.out (.inl rfl) (.inl rfl) (HKX.out.drewN _)

set_option maxHeartbeats 1000000 in
theorem does_undoYes {b r : Nat} {st : St} {s : ByteArray} {g : Int} {w : World} (h : LogSt w b r st) (ok : st.Ok) (hb : st.back ≠ []) :
    Calls Try.prog 22 #[.pointer (some ⟨b, 0, none⟩), .agg #[.int .i64 3, .string s, .int .i64 g]] w (DoesPost w b r (st.step ⟨3, s, g⟩).1 (st.step ⟨3, s, g⟩).2) := by
  have e1 : st.step ⟨3, s, g⟩ = (({ lim := st.lim, back := st.back.dropLast, now := st.back.getLast?.getD ByteArray.empty, forth := st.forth ++ [st.now], op := 0 } : St), true) := by unfold St.step; rw [if_neg (by dsimp only; decide), if_neg (by dsimp only; decide), if_neg (by dsimp only; decide), if_pos rfl]; exact if_neg hb
  rw [e1]
  have H := Lib.hid h
  have hn := ok_len ok
  have h1 := ok.one
  have h2 := ok.most
  have HX := Lib.hid st.xs_now
  have hpos : 0 < st.back.length := List.length_pos_iff.2 hb
  have HB0 : ∀ w' : World, LogSt w' b r st → Log_s w' b r st.lim st.xs (st.back.length - 1 + 1) st.op := by
    intro w' h'
    rw [Nat.sub_add_cancel hpos]
    exact h'
  have HX0 : Hid (st.xs[st.back.length - 1]? = some (st.back.getLast?.getD ByteArray.empty)) := by
    show _ = _
    rw [st.xs_back _ (by omega)]
    exact getLast_get hb
  have HNE := Lib.hid hb
  clear hb
  clear h e1
  have HBX := Lib.hid (H.out.box (.cells #[.int .i64 3, .string s, .int .i64 g] 44))
  have HKX := Lib.hid (keep_box (fun k => k = b ∨ k = r) w (.cells #[.int .i64 3, .string s, .int .i64 g] 44))
  go_enter Try.func22, Try.ntmps22
  go_wp2_with fail
  refine (undoYes_s (v := st.back.getLast?.getD ByteArray.empty) (HB0 _ HBX.out) hn HX0.out).mono ?_
  rintro e w1 ⟨rfl, HL, hk1⟩
  have HL1 : Hid (LogSt w1 b r ({ lim := st.lim, back := st.back.dropLast, now := st.back.getLast?.getD ByteArray.empty, forth := st.forth ++ [st.now], op := 0 } : St)) := by
    unfold LogSt
    rw [st.undo_xs HNE.out 0]
    dsimp only
    rw [List.length_dropLast]
    exact HL
  have HK1 := Lib.hid (HKX.out.trans hk1 (fun i _ e => .inl e))
  clear HL hk1
  go_wp2
  go_ret3
  exact does_end rfl rfl HL1.out (.inl rfl) (.inl rfl) HK1.out

set_option maxHeartbeats 1000000 in
theorem does_redoNo {b r : Nat} {st : St} {s : ByteArray} {g : Int} {w : World} (h : LogSt w b r st) (ok : st.Ok) (hb : st.forth = []) :
    Calls Try.prog 22 #[.pointer (some ⟨b, 0, none⟩), .agg #[.int .i64 4, .string s, .int .i64 g]] w (DoesPost w b r (st.step ⟨4, s, g⟩).1 (st.step ⟨4, s, g⟩).2) := by
  have e1 : st.step ⟨4, s, g⟩ = (st, false) := by unfold St.step; rw [if_neg (by dsimp only; decide), if_neg (by dsimp only; decide), if_neg (by dsimp only; decide), if_neg (by dsimp only; decide), if_pos rfl]; exact if_pos hb
  rw [e1]
  have H := Lib.hid h
  have hn := ok_len ok
  have h1 := ok.one
  have h2 := ok.most
  have HX := Lib.hid st.xs_now
  have HLEN : Hid (st.xs.length = st.back.length + 1) := by show _ = _; rw [St.xs_length, hb]; rfl
  clear hb
  clear h e1
  have HBX := Lib.hid (H.out.box (.cells #[.int .i64 4, .string s, .int .i64 g] 44))
  have HKX := Lib.hid (keep_box (fun k => k = b ∨ k = r) w (.cells #[.int .i64 4, .string s, .int .i64 g] 44))
  go_enter Try.func22, Try.ntmps22
  go_wp2_with fail
  refine (redoNo_s (v := st.now) HBX.out hn HLEN.out HX.out).mono ?_
  rintro e w1 ⟨rfl, k, rfl⟩
  go_wp2
  go_ret3
  exact does_end rfl rfl HBX.out (.inl rfl) (.inl rfl) (HKX.out.drewN _)

set_option maxHeartbeats 1000000 in
theorem does_redoYes {b r : Nat} {st : St} {s : ByteArray} {g : Int} {w : World} (h : LogSt w b r st) (ok : st.Ok) (hb : st.forth ≠ []) :
    Calls Try.prog 22 #[.pointer (some ⟨b, 0, none⟩), .agg #[.int .i64 4, .string s, .int .i64 g]] w (DoesPost w b r (st.step ⟨4, s, g⟩).1 (st.step ⟨4, s, g⟩).2) := by
  have e1 : st.step ⟨4, s, g⟩ = (({ lim := st.lim, back := st.back ++ [st.now], now := st.forth.getLast?.getD ByteArray.empty, forth := st.forth.dropLast, op := 0 } : St), true) := by unfold St.step; rw [if_neg (by dsimp only; decide), if_neg (by dsimp only; decide), if_neg (by dsimp only; decide), if_neg (by dsimp only; decide), if_pos rfl]; exact if_neg hb
  rw [e1]
  have H := Lib.hid h
  have hn := ok_len ok
  have h1 := ok.one
  have h2 := ok.most
  have HX := Lib.hid st.xs_now
  have HX0 : Hid (st.xs[st.back.length + 1]? = some (st.forth.getLast?.getD ByteArray.empty)) := by
    have e2 := St.xs_now ({ lim := st.lim, back := st.back ++ [st.now], now := st.forth.getLast?.getD ByteArray.empty, forth := st.forth.dropLast, op := 0 } : St)
    rw [st.redo_xs hb 0] at e2
    dsimp only at e2
    rw [List.length_append] at e2
    exact e2
  have HNE := Lib.hid hb
  clear hb
  clear h e1
  have HBX := Lib.hid (H.out.box (.cells #[.int .i64 4, .string s, .int .i64 g] 44))
  have HKX := Lib.hid (keep_box (fun k => k = b ∨ k = r) w (.cells #[.int .i64 4, .string s, .int .i64 g] 44))
  go_enter Try.func22, Try.ntmps22
  go_wp2_with fail
  refine (redoYes_s (v := st.forth.getLast?.getD ByteArray.empty) HBX.out hn HX0.out).mono ?_
  rintro e w1 ⟨rfl, HL, hk1⟩
  have HL1 : Hid (LogSt w1 b r ({ lim := st.lim, back := st.back ++ [st.now], now := st.forth.getLast?.getD ByteArray.empty, forth := st.forth.dropLast, op := 0 } : St)) := by
    unfold LogSt
    rw [st.redo_xs HNE.out 0]
    dsimp only
    rw [List.length_append]
    exact HL
  have HK1 := Lib.hid (HKX.out.trans hk1 (fun i _ e => .inl e))
  clear HL hk1
  go_wp2
  go_ret3
  exact does_end rfl rfl HL1.out (.inl rfl) (.inl rfl) HK1.out

set_option maxHeartbeats 1000000 in
theorem does_copySameNo {b r : Nat} {st : St} {s : ByteArray} {g : Int} {w : World} (h : LogSt w b r st) (ok : st.Ok) (hs : (noneS.toList == st.now.toList) = true) (hb : st.back = []) :
    Calls Try.prog 22 #[.pointer (some ⟨b, 0, none⟩), .agg #[.int .i64 5, .string s, .int .i64 g]] w (DoesPost w b r (st.step ⟨5, s, g⟩).1 (st.step ⟨5, s, g⟩).2) := by
  have e1 : st.step ⟨5, s, g⟩ = (st, false) := by unfold St.step; rw [if_neg (by dsimp only; decide), if_neg (by dsimp only; decide), if_neg (by dsimp only; decide), if_neg (by dsimp only; decide), if_neg (by dsimp only; decide)]
  rw [e1]
  have H := Lib.hid h
  have hn := ok_len ok
  have h1 := ok.one
  have h2 := ok.most
  have HX := Lib.hid st.xs_now
  have HS := Lib.hid hs
  clear hs
  have HB0 : ∀ w' : World, LogSt w' b r st → Log_s w' b r st.lim st.xs 0 st.op := by
    intro w' h'
    have e0 : st.back.length = 0 := by rw [hb]; rfl
    rw [← e0]
    exact h'
  have HX0 : Hid (st.xs[0]? = some st.now) := by
    have e0 : st.back.length = 0 := by rw [hb]; rfl
    rw [← e0]
    exact HX.out
  clear hb
  clear h e1
  have HBX := Lib.hid (H.out.box (.cells #[.int .i64 5, .string s, .int .i64 g] 44))
  have HKX := Lib.hid (keep_box (fun k => k = b ∨ k = r) w (.cells #[.int .i64 5, .string s, .int .i64 g] 44))
  go_enter Try.func22, Try.ntmps22
  go_wp2_with fail
  refine (copy_s HBX.out hn).mono ?_
  rintro e w1 ⟨bc, rc, rfl, HL, hb1, hr1, hk1⟩
  have HL1 := Lib.hid HL
  have HO1 := Lib.hid (HBX.out.keep hk1 (fun h => h) (fun h => h))
  have HK1 := Lib.hid (HKX.out.trans hk1 (fun i _ e => e.elim))
  have hbc : w.heap.size ≤ bc := Nat.le_trans HKX.out.size hb1
  have hrc : w.heap.size ≤ rc := Nat.le_trans HKX.out.size hr1
  have hbl := (H.out.lt).1
  have hrl := (H.out.lt).2
  clear HL hk1 hb1 hr1
  go_wp2_with fail
  refine (doSame_s (s := noneS) (v := st.now) 0 HO1.out hn HX.out HS.out).mono ?_
  rintro e w2 ⟨rfl, k2, rfl⟩
  go_wp2_with fail
  refine (undoNo_s (v := st.now) (HB0 _ (HO1.out.drewN k2)) hn HX0.out).mono ?_
  rintro e w3 ⟨rfl, k3, rfl⟩
  have HLc : Hid (LogSt (w1.drewN (k2 + k3)) bc rc st) := HL1.out
  have HKc := Lib.hid HK1.out
  go_wp2_with fail
  refine (now_s (v := st.now) HLc.out hn HX.out).mono ?_
  rintro e w9 ⟨rfl, k9, rfl⟩
  go_wp2
  go_ret3
  exact does_end rfl rfl HLc.out (.inr hbc) (.inr hrc) (HKc.out.drewN _)

set_option maxHeartbeats 1000000 in
theorem does_copySameYes {b r : Nat} {st : St} {s : ByteArray} {g : Int} {w : World} (h : LogSt w b r st) (ok : st.Ok) (hs : (noneS.toList == st.now.toList) = true) (hb : st.back ≠ []) :
    Calls Try.prog 22 #[.pointer (some ⟨b, 0, none⟩), .agg #[.int .i64 5, .string s, .int .i64 g]] w (DoesPost w b r (st.step ⟨5, s, g⟩).1 (st.step ⟨5, s, g⟩).2) := by
  have e1 : st.step ⟨5, s, g⟩ = (st, false) := by unfold St.step; rw [if_neg (by dsimp only; decide), if_neg (by dsimp only; decide), if_neg (by dsimp only; decide), if_neg (by dsimp only; decide), if_neg (by dsimp only; decide)]
  rw [e1]
  have H := Lib.hid h
  have hn := ok_len ok
  have h1 := ok.one
  have h2 := ok.most
  have HX := Lib.hid st.xs_now
  have HS := Lib.hid hs
  clear hs
  have hpos : 0 < st.back.length := List.length_pos_iff.2 hb
  have HB0 : ∀ w' : World, LogSt w' b r st → Log_s w' b r st.lim st.xs (st.back.length - 1 + 1) st.op := by
    intro w' h'
    rw [Nat.sub_add_cancel hpos]
    exact h'
  have HX0 : Hid (st.xs[st.back.length - 1]? = some (st.back.getLast?.getD ByteArray.empty)) := by
    show _ = _
    rw [st.xs_back _ (by omega)]
    exact getLast_get hb
  clear hb
  clear h e1
  have HBX := Lib.hid (H.out.box (.cells #[.int .i64 5, .string s, .int .i64 g] 44))
  have HKX := Lib.hid (keep_box (fun k => k = b ∨ k = r) w (.cells #[.int .i64 5, .string s, .int .i64 g] 44))
  go_enter Try.func22, Try.ntmps22
  go_wp2_with fail
  refine (copy_s HBX.out hn).mono ?_
  rintro e w1 ⟨bc, rc, rfl, HL, hb1, hr1, hk1⟩
  have HL1 := Lib.hid HL
  have HO1 := Lib.hid (HBX.out.keep hk1 (fun h => h) (fun h => h))
  have HK1 := Lib.hid (HKX.out.trans hk1 (fun i _ e => e.elim))
  have hbc : w.heap.size ≤ bc := Nat.le_trans HKX.out.size hb1
  have hrc : w.heap.size ≤ rc := Nat.le_trans HKX.out.size hr1
  have hbl := (H.out.lt).1
  have hrl := (H.out.lt).2
  clear HL hk1 hb1 hr1
  go_wp2_with fail
  refine (doSame_s (s := noneS) (v := st.now) 0 HO1.out hn HX.out HS.out).mono ?_
  rintro e w2 ⟨rfl, k2, rfl⟩
  go_wp2_with fail
  refine (undoYes_s (v := st.back.getLast?.getD ByteArray.empty) (HB0 _ (HO1.out.drewN k2)) hn HX0.out).mono ?_
  rintro e w3 ⟨rfl, HL3, hk3⟩
  have HLc : Hid (LogSt w3 bc rc st) := (HL1.out.drewN k2).keep hk3 (by omega) (by omega)
  have HKc := Lib.hid ((HK1.out.drewN k2).trans hk3 (fun i _ e => .inl e))
  clear HL3 hk3
  go_wp2_with fail
  refine (now_s (v := st.now) HLc.out hn HX.out).mono ?_
  rintro e w9 ⟨rfl, k9, rfl⟩
  go_wp2
  go_ret3
  exact does_end rfl rfl HLc.out (.inr hbc) (.inr hrc) (HKc.out.drewN _)

set_option maxHeartbeats 1000000 in
theorem does_copyNew {b r : Nat} {st : St} {s : ByteArray} {g : Int} {w : World} (h : LogSt w b r st) (ok : st.Ok) (hs : (noneS.toList == st.now.toList) = false) :
    Calls Try.prog 22 #[.pointer (some ⟨b, 0, none⟩), .agg #[.int .i64 5, .string s, .int .i64 g]] w (DoesPost w b r (st.step ⟨5, s, g⟩).1 (st.step ⟨5, s, g⟩).2) := by
  have e1 : st.step ⟨5, s, g⟩ = (st, false) := by unfold St.step; rw [if_neg (by dsimp only; decide), if_neg (by dsimp only; decide), if_neg (by dsimp only; decide), if_neg (by dsimp only; decide), if_neg (by dsimp only; decide)]
  rw [e1]
  have H := Lib.hid h
  have hn := ok_len ok
  have h1 := ok.one
  have h2 := ok.most
  have HX := Lib.hid st.xs_now
  have HS := Lib.hid hs
  have OK := Lib.hid ok
  clear hs
  have HU : Hid (∀ (w' : World) (r' : Nat), LogSt w' b r' ({ lim := st.lim, back := cut st.lim (st.back ++ [st.now]), now := noneS, forth := [], op := max 0 0 } : St) →
      Log_s w' b r' st.lim ({ lim := st.lim, back := cut st.lim (st.back ++ [st.now]), now := noneS, forth := [], op := max 0 0 } : St).xs ((cut st.lim (st.back ++ [st.now])).length - 1 + 1) (max 0 0) ∧
      ({ lim := st.lim, back := cut st.lim (st.back ++ [st.now]), now := noneS, forth := [], op := max 0 0 } : St).xs.length ≤ 1000 ∧
      ({ lim := st.lim, back := cut st.lim (st.back ++ [st.now]), now := noneS, forth := [], op := max 0 0 } : St).xs[(cut st.lim (st.back ++ [st.now])).length - 1]? = some ((cut st.lim (st.back ++ [st.now])).getLast?.getD ByteArray.empty)) := by
    intro w' r' h'
    have hne : cut st.lim (st.back ++ [st.now]) ≠ [] := by
      unfold cut
      split
      · next hl =>
        intro e
        have := congrArg List.length e
        rw [List.length_drop, List.length_append, List.length_singleton, List.length_nil] at this
        rw [List.length_append, List.length_singleton] at hl
        omega
      · simp
    have hpos : 0 < (cut st.lim (st.back ++ [st.now])).length := List.length_pos_iff.2 hne
    refine ⟨?_, ?_, ?_⟩
    · rw [Nat.sub_add_cancel hpos]
      exact h'
    · rw [St.xs_length]
      have hc : (cut st.lim (st.back ++ [st.now])).length ≤ st.back.length + 1 := by
        unfold cut
        split <;> simp
      have := ok.room
      simp only [List.length_nil]
      omega
    · rw [St.xs_back _ _ (by dsimp only; omega)]
      exact getLast_get hne
  clear h e1
  have HBX := Lib.hid (H.out.box (.cells #[.int .i64 5, .string s, .int .i64 g] 44))
  have HKX := Lib.hid (keep_box (fun k => k = b ∨ k = r) w (.cells #[.int .i64 5, .string s, .int .i64 g] 44))
  go_enter Try.func22, Try.ntmps22
  go_wp2_with fail
  refine (copy_s HBX.out hn).mono ?_
  rintro e w1 ⟨bc, rc, rfl, HL, hb1, hr1, hk1⟩
  have HL1 := Lib.hid HL
  have HO1 := Lib.hid (HBX.out.keep hk1 (fun h => h) (fun h => h))
  have HK1 := Lib.hid (HKX.out.trans hk1 (fun i _ e => e.elim))
  have hbc : w.heap.size ≤ bc := Nat.le_trans HKX.out.size hb1
  have hrc : w.heap.size ≤ rc := Nat.le_trans HKX.out.size hr1
  have hbl := (H.out.lt).1
  have hrl := (H.out.lt).2
  clear HL hk1 hb1 hr1
  go_wp2_with fail
  refine (doNewA_s (s := noneS) (v := st.now) (g := 0) HO1.out hn h1 h2 HX.out HS.out (by omega)).mono ?_
  rintro e w2 ⟨r2, rfl, HL2, hr2, hk2⟩
  have e2 := st.do_new OK.out noneS (max 0 0)
  dsimp only at e2
  rw [e2.1, e2.2] at HL2
  have HL2' : Hid (LogSt w2 b r2 ({ lim := st.lim, back := cut st.lim (st.back ++ [st.now]), now := noneS, forth := [], op := max 0 0 } : St)) := HL2
  have HLc2 : Hid (LogSt w2 bc rc st) := HL1.out.keep hk2 (by omega) (by omega)
  have HKc2 := Lib.hid (HK1.out.trans hk2 (fun i _ e => .inl e))
  clear HL2 hk2 e2
  go_wp2_with fail
  refine (undoYes_s (HU.out _ _ HL2'.out).1 (HU.out _ _ HL2'.out).2.1 (HU.out _ _ HL2'.out).2.2).mono ?_
  rintro e w3 ⟨rfl, HL3, hk3⟩
  have HLc : Hid (LogSt w3 bc rc st) := HLc2.out.keep hk3 (by omega) (by omega)
  have HKc := Lib.hid (HKc2.out.trans hk3 (fun i _ e => .inl e))
  clear HL3 hk3
  go_wp2_with fail
  refine (now_s (v := st.now) HLc.out hn HX.out).mono ?_
  rintro e w9 ⟨rfl, k9, rfl⟩
  go_wp2
  go_ret3
  exact does_end rfl rfl HLc.out (.inr hbc) (.inr hrc) (HKc.out.drewN _)

set_option maxHeartbeats 1000000 in
theorem does_other {b r : Nat} {st : St} {kind : Int} {s : ByteArray} {g : Int} {w : World} (h : LogSt w b r st) (ok : st.Ok) (hk : kind < 0 ∨ 5 < kind) :
    Calls Try.prog 22 #[.pointer (some ⟨b, 0, none⟩), .agg #[.int .i64 kind, .string s, .int .i64 g]] w (DoesPost w b r (st.step ⟨kind, s, g⟩).1 (st.step ⟨kind, s, g⟩).2) := by
  have e1 : st.step ⟨kind, s, g⟩ = (st, false) := by unfold St.step; rw [if_neg (by dsimp only; omega), if_neg (by dsimp only; omega), if_neg (by dsimp only; omega), if_neg (by dsimp only; omega), if_neg (by dsimp only; omega)]
  rw [e1]
  have H := Lib.hid h
  have hn := ok_len ok
  have h1 := ok.one
  have h2 := ok.most
  have HX := Lib.hid st.xs_now
  clear h e1
  have HBX := Lib.hid (H.out.box (.cells #[.int .i64 kind, .string s, .int .i64 g] 44))
  have HKX := Lib.hid (keep_box (fun k => k = b ∨ k = r) w (.cells #[.int .i64 kind, .string s, .int .i64 g] 44))
  go_enter Try.func22, Try.ntmps22
  go_wp2_with fail
  refine (now_s (v := st.now) HBX.out hn HX.out).mono ?_
  rintro e w2 ⟨rfl, k2, rfl⟩
  go_wp2
  go_ret3
  exact does_end rfl rfl HBX.out (.inl rfl) (.inl rfl) (HKX.out.drewN _)

/-- Any call of the script. -/
theorem does_any {b r : Nat} {st : St} (o : Op) {w : World} (h : LogSt w b r st) (ok : st.Ok) :
    Calls Try.prog 22 #[.pointer (some ⟨b, 0, none⟩), .agg #[.int .i64 o.kind, .string o.s, .int .i64 o.g]] w (DoesPost w b r (st.step o).1 (st.step o).2) := by
  obtain ⟨kind, s, g⟩ := o
  dsimp only
  by_cases k0 : kind = 0
  · subst k0
    cases hs : (s.toList == st.now.toList) with
    | true => exact does_do_same h ok hs
    | false =>
      by_cases hg : g ≤ 0
      · exact does_do_newA h ok hs hg
      · by_cases ho : g = st.op
        · exact does_do_newC h ok hs (by omega) ho
        · exact does_do_newB h ok hs (by omega) ho
  by_cases k1 : kind = 1
  · subst k1; exact does_move h ok
  by_cases k2 : kind = 2
  · subst k2; exact does_break h ok
  by_cases k3 : kind = 3
  · subst k3
    by_cases hb : st.back = []
    · exact does_undoNo h ok hb
    · exact does_undoYes h ok hb
  by_cases k4 : kind = 4
  · subst k4
    by_cases hb : st.forth = []
    · exact does_redoNo h ok hb
    · exact does_redoYes h ok hb
  by_cases k5 : kind = 5
  · subst k5
    cases hs : (noneS.toList == st.now.toList) with
    | true =>
      by_cases hb : st.back = []
      · exact does_copySameNo h ok hs hb
      · exact does_copySameYes h ok hs hb
    | false => exact does_copyNew h ok hs
  exact does_other h ok (by omega)
end Go.Proofs.Ytbaggkokoablbaa
