/- The walk of UndoMoves: it answers true, and keeps all that was there. -/
import Derived.Test.YtbaggkokoablbaaX
namespace Go.Proofs.Ytbaggkokoablbaa
open Go.RowKit Go.BigFrame

theorem SlAt.drewN {w : World} {bad : Nat → Prop} {A : Option Addr} {c : Nat} {l : List ByteArray} (h : SlAt w bad A c l) (k : Nat) : SlAt (w.drewN k) bad A c l := ⟨h.reads, h.nil, h.cap, h.far, h.spot⟩

theorem SlAt.lastAt {w : World} {bad : Nat → Prop} {A : Option Addr} {c : Nat} {l : List ByteArray} (h : SlAt w bad A c l) (hne : l ≠ []) : ∃ b o, A = some ⟨b, o, none⟩ ∧ w.cell? ⟨b, o + (l.length - 1), none⟩ = some (.string (lastOf l)) :=
  h.cellAt (getLast_get hne)

set_option maxRecDepth 100000 in
set_option maxHeartbeats 4000000 in
theorem moves_any (limit : Int) (A : Option Addr) (c : Nat) (l : List Op) (by_ : ByteArray) (w : World) (h : OpsAt w A l) (hn : l.length * 32 ≤ 140737488351232) (hbs : by_.size ≤ maxLen) :
    Calls Try.prog 8 #[.int .i64 limit, .slice A l.length c, .string by_] w fun e w' => e = .returned (.bool true) ∧ Keep (fun _ => False) w w' := by
  unfold maxLen at hbs
  have H := Lib.hid h
  clear h
  go_enter Try.func8, Try.ntmps8
  go_wp2_with fail
  refine (few_any A c l w H.out hn).mono ?_
  rintro e w1 ⟨fb, rfl, hfb, hk⟩
  have HK1 := Lib.hid hk
  clear hk
  cases fb with
  | false =>
    clear hfb
    go_wp2_with fail
    refine (alive_any w1).mono ?_
    rintro e w2 ⟨rfl, hk⟩
    have HK := Lib.hid (HK1.out.trans hk (fun _ _ h => h))
    clear hk
    go_wp2
    go_ret
    exact ⟨rfl, HK.out⟩
  | true =>
    have h400 : l.length ≤ 400 := hfb rfl
    clear hfb hn
    by_cases hby : 100 < by_.size
    · go_wp2_with fail
      refine (alive_any w1).mono ?_
      rintro e w2 ⟨rfl, hk⟩
      have HK := Lib.hid (HK1.out.trans hk (fun _ _ h => h))
      clear hk
      go_wp2
      go_ret
      exact ⟨rfl, HK.out⟩
    go_wp2_with fail
    refine (new_st limit w1).mono ?_
    rintro e w2 ⟨b, r, lim, rfl, HL, hlim, hb, hr, hk⟩
    have HLM := Lib.hid hlim
    have HL1 := Lib.hid HL
    have OK1 : Hid (({ lim := lim, back := [], now := ⟨#[]⟩, forth := [], op := 0 } : St).Ok) := ⟨by dsimp only; omega, by dsimp only; omega, by simp⟩
    have HK2 := Lib.hid (HK1.out.trans hk (fun _ _ h => h))
    have hb' : w.heap.size ≤ b := Nat.le_trans HK1.out.size hb
    have hr' : w.heap.size ≤ r := Nat.le_trans HK1.out.size hr
    clear HL hk hlim hb hr HK1
    go_wp2_with fail
    refine (refNew_any ⟨#[]⟩ limit w2).mono ?_
    rintro e w3 ⟨lim2, rfl, hlim2, hk3⟩
    obtain rfl : lim2 = lim := by have := HLM.out; omega
    have HK3 := Lib.hid (HK2.out.trans hk3 (fun _ _ h => h))
    have HL3 := Lib.hid (HL1.out.keep hk3 (fun h => h) (fun h => h))
    clear hlim2 hk3 HL1 HK2
    go_wp2_with fail
    have HBO := Lib.hid (both_start HL3.out OK1.out)
    have HK4 := Lib.hid (HK3.out.alloc (.cells #[.int .i64 lim2, .slice none 0 0, .string ⟨#[]⟩, .slice none 0 0, .int .i64 0] 41))
    have hB3 : w.heap.size ≤ w3.heap.size := HK3.out.size
    go_loopw [7, 32] (ARel w w3.heap.size l.length) (fun _ i _ => l.length - (intOf i).toNat)
    case atStart => exact ⟨0, b, r, _, Nat.zero_le _, rfl, rfl, HBO.out, hb', hr', hB3, HK4.out⟩
    case round =>
      generalize w3.heap.size = B at *
      obtain ⟨k, b, r, st, hk, rfl, rfl, ⟨hL, ok, A1, c1, A2, c2, hB, hS1, hS2⟩, hb, hr, hBB, hK⟩ := hrel
      have HL := Lib.hid hL
      have OK := Lib.hid ok
      have HK := Lib.hid hK
      have HS1 := Lib.hid hS1
      have HS2 := Lib.hid hS2
      have b0 := hB.cell 0
      have b1 := hB.cell 1
      have b2 := hB.cell 2
      have b3 := hB.cell 3
      have b4 := hB.cell 4
      simp at b0 b1 b2 b3 b4
      have hBlt := hB.lt
      have HB := Lib.hid hB
      clear hL ok hK hB hS1 hS2 HBO HK3 HK4 HL3 OK1 hb' hr' hB3 HLM
      by_cases hlt : k < l.length
      · obtain ⟨x, hx⟩ : ∃ x, l[k]? = some x := ⟨_, List.getElem?_eq_getElem hlt⟩
        obtain ⟨ba, oa, rfl, hba, q0, q1, q2, hsz⟩ := (H.out.keep HK.out) k x hx
        clear hx
        have hK8 := keep_box (fun _ => False) wr (.cells #[.int .i64 x.kind, .string x.s, .int .i64 x.g] 44)
        have HL8 := Lib.hid (HL.out.keep hK8 (fun h => h) (fun h => h))
        have HB8 := Lib.hid (HB.out.keep hK8 (fun h => h))
        have HX8 := Lib.hid (Blk.new wr 44 #[.int .i64 x.kind, .string x.s, .int .i64 x.g])
        have HS8 := Lib.hid (HS1.out.keep hK8 (fun _ _ h => h.elim))
        have HT8 := Lib.hid (HS2.out.keep hK8 (fun _ _ h => h.elim))
        have HK8 := Lib.hid (HK.out.trans hK8 (fun _ _ h => h))
        have hbl := (HL.out.lt).1
        have hrl := (HL.out.lt).2
        clear hK8 HL HB HS1 HS2 HK
        go_wp2_with fail
        refine (refDo_any x HS8.out HT8.out OK.out (by simp; omega)).mono ?_
        rintro e w4 ⟨A1', c1', A2', c2', rfl, hS1, hS2, hk4⟩
        unfold refVal
        have HS4 := Lib.hid hS1
        have HT4 := Lib.hid hS2
        have HL4 := Lib.hid (HL8.out.keep hk4 (fun h => h) (fun h => h))
        have hB4 := HB8.out.keep hk4 (fun h => h)
        have HX4 := Lib.hid (HX8.out.keep hk4 (fun h => h))
        have HK4 := Lib.hid (HK8.out.trans hk4 (fun _ _ h => h))
        have OK4 := Lib.hid (St.step_ok OK.out x)
        have g0 := hB4.cell 0
        have g1 := hB4.cell 1
        have g2 := hB4.cell 2
        have g3 := hB4.cell 3
        have g4 := hB4.cell 4
        simp at g0 g1 g2 g3 g4
        have y0 := hB4.frozen 0
        have y1 := hB4.frozen 1
        have y2 := hB4.frozen 2
        have y3 := hB4.frozen 3
        have y4 := hB4.frozen 4
        have hBl4 := hB4.lt
        have HB4 := Lib.hid hB4
        generalize hst' : (st.step x).1 = st' at *
        generalize hfl : (st.step x).2 = fl at *
        have HST := Lib.hid hst'
        have HFL := Lib.hid hfl
        clear hst' hfl hS1 hS2 hk4 hB4 HL8 HB8 HX8 HS8 HT8 HK8 b0 b1 b2 b3 b4 q0 q1 q2
        go_upto_region 10 with fail
        generalize hW5 : ((((w4.setCell ⟨B, 0, none⟩ (.int .i64 st'.lim)).setCell ⟨B, 1, none⟩ (.slice A1' st'.back.length c1')).setCell ⟨B, 2, none⟩ (.string st'.now)).setCell ⟨B, 3, none⟩ (.slice A2' st'.forth.length c2')).setCell ⟨B, 4, none⟩ (.int .i64 st'.op) = W5
        obtain ⟨hB5, hK5⟩ := boxed5' HB4.out hW5
        have hne4 := HL4.out.ne_blk HB4.out (by decide) (by decide)
        have hL5 : LogSt W5 b r st := HL4.out.keep hK5 (by omega) (by omega)
        have hS5 := HS4.out.keep hK5 (fun _ _ e => .inr (.inr e))
        have hT5 := HT4.out.keep hK5 (fun _ _ e => .inr (.inr e))
        have hx5 : Blk W5 wr.heap.size 44 #[.int .i64 x.kind, .string x.s, .int .i64 x.g] := HX4.out.keep hK5 (by omega)
        have q0 := hx5.cell 0
        have q1 := hx5.cell 1
        have q2 := hx5.cell 2
        simp at q0 q1 q2
        have HB5 := Lib.hid hB5
        have HL5 := Lib.hid hL5
        have HS5 := Lib.hid hS5
        have HT5 := Lib.hid hT5
        have HK5 := Lib.hid (HK4.out.trans hK5 (fun _ _ e => by omega))
        have hbl5 := (hL5.lt).1
        have hrl5 := (hL5.lt).2
        have hBl5 := hB5.lt
        clear hW5 hB5 hL5 hS5 hT5 hx5 hK5 HS4 HT4 HL4 HX4 HK4 HB4 g0 g1 g2 g3 g4 y0 y1 y2 y3 y4
        go_wp2_with fail
        refine (does_any x HL5.out OK.out).mono ?_
        rw [HST.out, HFL.out]
        rintro e w6 ⟨b', r', rfl, hL6, hb6, hr6, hk6⟩
        have hS6 : SlAt w6 (fun k => k = b' ∨ k = r' ∨ k = B) A1' c1' st'.back := (HS5.out.renew (bad' := fun k => k = b ∨ k = r ∨ k = b' ∨ k = r' ∨ k = B) (fun k hk h => by omega)).keep hk6 (fun k _ h => by omega) |>.weaken (fun k h => by omega)
        have hT6 : SlAt w6 (fun k => k = b' ∨ k = r' ∨ k = B) A2' c2' st'.forth := (HT5.out.renew (bad' := fun k => k = b ∨ k = r ∨ k = b' ∨ k = r' ∨ k = B) (fun k hk h => by omega)).keep hk6 (fun k _ h => by omega) |>.weaken (fun k h => by omega)
        have HBO7 : Hid (Both w6 b' r' B st') := ⟨hL6, OK4.out, A1', c1', A2', c2', HB5.out.keep hk6 (by omega), hS6, hT6⟩
        have HK7 := Lib.hid (HK5.out.trans hk6 (fun i hi e => by omega))
        have hbb : w.heap.size ≤ b' := by have := HK5.out.size; omega
        have hrr : w.heap.size ≤ r' := by have := HK5.out.size; omega
        clear hL6 hS6 hT6 hb6 hr6 hk6 HB5 HL5 HS5 HT5 HK5 q0 q1 q2 hne4
        go_wp2
        go_roundw
        case rel => exact ⟨k + 1, b', r', st', by omega, by go_num, rfl, HBO7.out, hbb, hrr, hBB, HK7.out⟩
        case measure => simp [intOf]; omega
      · have hl1 := OK.out.most
        have hl2 := OK.out.room
        go_wp2_with fail
        clear hlt hk
        refine (move_s by_ HL.out (ok_len OK.out)).mono ?_
        rintro e w2 ⟨rfl, hL2, hk2⟩
        rw [st.move by_] at hL2
        have OK2 : Hid (({ st with now := by_ } : St).Ok) := ⟨OK.out.one, OK.out.most, OK.out.room⟩
        have hne2 := HL.out.ne_blk HB.out (by decide) (by decide)
        have HL2 : Hid (LogSt w2 b r ({ st with now := by_ } : St)) := hL2
        have HB2 := HB.out.keep hk2 (by omega)
        have hS2 := HS1.out.keep hk2 (fun k _ h => by omega)
        have hT2 := HS2.out.keep hk2 (fun k _ h => by omega)
        have HK2 := Lib.hid (HK.out.trans hk2 (fun i hi e => by omega))
        have HS2' := Lib.hid hS2
        have HT2 := Lib.hid hT2
        have HB2' := Lib.hid HB2
        clear hL2 hk2 HL HB HS1 HS2 HK b0 b1 b2 b3 b4 hS2 hT2 HB2
        generalize hsm : ({ st with now := by_ } : St) = sm at *
        have hback : sm.back = st.back := by rw [← hsm]
        have hforth : sm.forth = st.forth := by rw [← hsm]
        have hnow : sm.now = by_ := by rw [← hsm]
        have HBK := Lib.hid hback
        have HFT := Lib.hid hforth
        have HNW := Lib.hid hnow
        clear hsm hback hforth hnow
        go_wp2_with fail
        refine (now_st HL2.out OK2.out).mono ?_
        rw [HNW.out]
        rintro e w3 ⟨rfl, k3, rfl⟩
        have g1 := (HB2'.out.drewN k3).cell 1
        have g3 := (HB2'.out.drewN k3).cell 3
        simp at g1 g3
        go_wp2_with fail
        have HST := Lib.hid (stands_any (b := b) (r := r) (A1 := A1) (A2 := A2) (c1 := c1) (c2 := c2) 0 0 (w := w2.drewN k3) HL2.out OK2.out)
        rw [HBK.out, HFT.out, HNW.out] at HST
        refine HST.out.mono ?_
        rintro e w4 ⟨rfl, hk4⟩
        have HL4 := Lib.hid ((HL2.out.drewN k3).keep hk4 (fun h => h) (fun h => h))
        have HB4 := Lib.hid ((HB2'.out.drewN k3).keep hk4 (fun h => h))
        have HS4 := Lib.hid ((HS2'.out.drewN k3).keep hk4 (fun _ _ h => h.elim))
        have HT4 := Lib.hid ((HT2.out.drewN k3).keep hk4 (fun _ _ h => h.elim))
        have HK4 := Lib.hid ((HK2.out.drewN k3).trans hk4 (fun _ _ h => h))
        clear hk4 HST HL2 HB2' HS2' HT2 HK2 g1 g3
        go_wp2_with fail
        by_cases hb : st.back = []
        · have hb' : sm.back = [] := by rw [HBK.out]; exact hb
          have HBE := Lib.hid hb'
          clear hb hb'
          refine (undoNo_st HL4.out OK2.out HBE.out).mono ?_
          rintro e w5 ⟨rfl, k5, rfl⟩
          have HB5 := Lib.hid (HB4.out.drewN k5)
          have a1 := HB5.out.cell 1
          have a3 := HB5.out.cell 3
          simp at a1 a3
          by_cases hf : st.forth = []
          · have hf' : sm.forth = [] := by rw [HFT.out]; exact hf
            have hfl : st.forth.length = 0 := by rw [hf]; rfl
            have hd : decide (0 < st.forth.length) = false := by simp; omega
            have HFE := Lib.hid hf'
            have HFL := Lib.hid hfl
            clear hf hf' hfl
            go_wp2_with fail
            refine (redoNo_st (HL4.out.drewN k5) OK2.out HFE.out).mono ?_
            rintro e w6 ⟨rfl, k6, rfl⟩
            go_wp2_with fail
            refine (alive_any _).mono ?_
            rintro e w7 ⟨rfl, hk7⟩
            have HK7 := Lib.hid ((HK4.out.drewN (k5 + k6)).trans hk7 (fun _ _ h => h))
            have HB7 := Lib.hid ((HB4.out.drewN (k5 + k6)).keep hk7 (fun h => h))
            have z3 := HB7.out.cell 3
            simp at z3
            clear hk7 a1 a3
            go_wp2
            go_ret
            exact ⟨by first | rfl | simp [HFL.out], HK7.out⟩
          · have hf' : sm.forth ≠ [] := by rw [HFT.out]; exact hf
            have hpos : 0 < st.forth.length := List.length_pos_iff.2 hf
            have hd : decide (0 < st.forth.length) = true := by simp; omega
            have HFE := Lib.hid hf'
            have HFF := Lib.hid hf
            clear hf hf'
            go_wp2_with fail
            refine (redoYes_st (HL4.out.drewN k5) OK2.out HFE.out).mono ?_
            rw [HFT.out]
            rintro e w6 ⟨rfl, hL6, hk6⟩
            have HK6 := Lib.hid ((HK4.out.drewN k5).trans hk6 (fun i hi e => by omega))
            have HB6 := Lib.hid ((HB4.out.drewN k5).keep hk6 (by omega))
            have HT6 := Lib.hid ((HT4.out.drewN k5).keep hk6 (fun k _ h => .inl h))
            clear hL6 hk6 a1 a3
            go_wp2_with fail
            refine (alive_any _).mono ?_
            rintro e w7 ⟨rfl, hk7⟩
            have HK7 := Lib.hid (HK6.out.trans hk7 (fun _ _ h => h))
            have HB7 := Lib.hid (HB6.out.keep hk7 (fun h => h))
            obtain ⟨bx, ox, rfl, hc⟩ := (HT6.out.keep hk7 (fun _ _ h => h.elim)).lastAt HFF.out
            have z3 := HB7.out.cell 3
            simp at z3
            clear hk7
            go_wp2
            go_ret
            exact ⟨by first | rfl | simp, HK7.out⟩
        · have hb' : sm.back ≠ [] := by rw [HBK.out]; exact hb
          have hposb : 0 < st.back.length := List.length_pos_iff.2 hb
          have HBE := Lib.hid hb'
          have HBF := Lib.hid hb
          clear hb hb'
          refine (undoYes_st HL4.out OK2.out HBE.out).mono ?_
          rw [HBK.out]
          rintro e w5 ⟨rfl, hL5, hk5⟩
          have HL5 := Lib.hid hL5
          have OK5 := Lib.hid (St.undone_ok OK2.out HBE.out)
          have HB5 := Lib.hid (HB4.out.keep hk5 (by omega))
          have HK5 := Lib.hid (HK4.out.trans hk5 (fun i hi e => by omega))
          have HT5 := Lib.hid (HT4.out.keep hk5 (fun k _ h => .inl h))
          obtain ⟨bx, ox, rfl, hcx⟩ := (HS4.out.keep hk5 (fun k _ h => .inl h)).lastAt HBF.out
          have a1 := HB5.out.cell 1
          have a3 := HB5.out.cell 3
          simp at a1 a3
          clear hL5 hk5
          go_wp2_with fail
          refine (redoYes_st HL5.out OK5.out sm.undone_forth).mono ?_
          rintro e w6 ⟨rfl, hL6, hk6⟩
          rw [St.undone_redone HBE.out] at hL6
          have HL6 := Lib.hid hL6
          have OK6 := Lib.hid (St.closed_ok OK2.out)
          have HB6 := Lib.hid (HB5.out.keep hk6 (by omega))
          have HK6 := Lib.hid (HK5.out.trans hk6 (fun i hi e => by omega))
          have HT6 := Lib.hid (HT5.out.keep hk6 (fun k _ h => .inl h))
          clear hL6 hk6 a1 a3 hcx
          go_wp2_with fail
          by_cases hf : st.forth = []
          · have hf' : sm.closed.forth = [] := by show sm.forth = []; rw [HFT.out]; exact hf
            have hfl : st.forth.length = 0 := by rw [hf]; rfl
            have hd : decide (0 < st.forth.length) = false := by simp; omega
            have HFE := Lib.hid hf'
            have HFL := Lib.hid hfl
            clear hf hf' hfl
            refine (redoNo_st HL6.out OK6.out HFE.out).mono ?_
            rintro e w7 ⟨rfl, k7, rfl⟩
            go_wp2_with fail
            refine (alive_any _).mono ?_
            rintro e w8 ⟨rfl, hk8⟩
            have HK8 := Lib.hid ((HK6.out.drewN k7).trans hk8 (fun _ _ h => h))
            have HB8 := Lib.hid ((HB6.out.drewN k7).keep hk8 (fun h => h))
            have z3 := HB8.out.cell 3
            simp at z3
            clear hk8
            go_wp2
            go_ret
            exact ⟨by first | rfl | simp [HFL.out], HK8.out⟩
          · have hf' : sm.closed.forth ≠ [] := by show sm.forth ≠ []; rw [HFT.out]; exact hf
            have hpos : 0 < st.forth.length := List.length_pos_iff.2 hf
            have hd : decide (0 < st.forth.length) = true := by simp; omega
            have HFE := Lib.hid hf'
            have HFF := Lib.hid hf
            have HCF : Hid (sm.closed.forth = st.forth) := HFT.out
            clear hf hf'
            refine (redoYes_st HL6.out OK6.out HFE.out).mono ?_
            rw [HCF.out]
            rintro e w7 ⟨rfl, hL7, hk7⟩
            have HK7 := Lib.hid (HK6.out.trans hk7 (fun i hi e => by omega))
            have HB7 := Lib.hid (HB6.out.keep hk7 (by omega))
            have HT7 := Lib.hid (HT6.out.keep hk7 (fun k _ h => .inl h))
            clear hL7 hk7
            go_wp2_with fail
            refine (alive_any _).mono ?_
            rintro e w8 ⟨rfl, hk8⟩
            have HK8 := Lib.hid (HK7.out.trans hk8 (fun _ _ h => h))
            have HB8 := Lib.hid (HB7.out.keep hk8 (fun h => h))
            obtain ⟨by1, oy1, rfl, hc⟩ := (HT7.out.keep hk8 (fun _ _ h => h.elim)).lastAt HFF.out
            have z3 := HB8.out.cell 3
            simp at z3
            clear hk8
            go_wp2
            go_ret
            exact ⟨by first | rfl | simp, HK8.out⟩
end Go.Proofs.Ytbaggkokoablbaa
