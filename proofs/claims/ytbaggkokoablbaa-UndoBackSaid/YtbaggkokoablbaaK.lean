/- The walk of UndoBack: it answers true, and keeps all that was there. -/
import Derived.Test.YtbaggkokoablbaaE
import Derived.Test.YtbaggkokoablbaaA
namespace Go.Proofs.Ytbaggkokoablbaa
open Go.RowKit Go.BigFrame

def KRel (w : World) (n : Nat) (l i : Value) (wr : World) : Prop :=
  ∃ (k b r : Nat) (st : St), k ≤ n ∧ i = .int .i64 k ∧ l = .pointer (some ⟨b, 0, none⟩) ∧ LogSt wr b r st ∧ st.Ok ∧ w.heap.size ≤ b ∧ w.heap.size ≤ r ∧ Keep (fun _ => False) w wr

set_option maxHeartbeats 2000000 in
theorem back_any (limit : Int) (A : Option Addr) (c : Nat) (l : List Op) (w : World) (h : OpsAt w A l) (hn : l.length * 32 ≤ 140737488351232) :
    Calls Try.prog 7 #[.int .i64 limit, .slice A l.length c] w fun e w' => e = .returned (.bool true) ∧ Keep (fun _ => False) w w' := by
  have H := Lib.hid h
  clear h
  go_enter Try.func7, Try.ntmps7
  go_wp2_with fail
  refine (few_any A c l w H.out hn).mono ?_
  rintro e w1 ⟨fb, rfl, hfb, hk⟩
  have HK1 := Lib.hid hk
  clear hk
  cases fb with
  | false =>
    clear hfb
    go_wp2_with fail
    refine (alive_any w1).mono ?_
    rintro e w2 ⟨rfl, hk⟩
    have HK := Lib.hid (HK1.out.trans hk (fun _ _ h => h))
    clear hk
    go_wp2
    go_ret
    exact ⟨rfl, HK.out⟩
  | true =>
    have h400 : l.length ≤ 400 := hfb rfl
    clear hfb hn
    go_wp2_with fail
    refine (new_st limit w1).mono ?_
    rintro e w2 ⟨b, r, lim, rfl, HL, hlim, hb, hr, hk⟩
    have HL1 := Lib.hid HL
    have OK1 : Hid (({ lim := lim, back := [], now := ⟨#[]⟩, forth := [], op := 0 } : St).Ok) := ⟨by dsimp only; omega, by dsimp only; omega, by simp⟩
    have HK2 := Lib.hid (HK1.out.trans hk (fun _ _ h => h))
    have hb' : w.heap.size ≤ b := Nat.le_trans HK1.out.size hb
    have hr' : w.heap.size ≤ r := Nat.le_trans HK1.out.size hr
    clear HL hk hlim hb hr HK1
    go_wp2_with fail
    go_loopw [5, 27] (KRel w l.length) (fun _ i _ => l.length - (intOf i).toNat)
    case atStart => exact ⟨0, b, r, _, Nat.zero_le _, rfl, rfl, HL1.out, OK1.out, hb', hr', HK2.out⟩
    case round =>
      obtain ⟨k, b, r, st, hk, rfl, rfl, hL, ok, hb, hr, hK⟩ := hrel
      have HL := Lib.hid hL
      have OK := Lib.hid ok
      have HK := Lib.hid hK
      clear hL ok hK HL1 OK1 HK2 hb' hr'
      by_cases hlt : k < l.length
      · obtain ⟨x, hx⟩ : ∃ x, l[k]? = some x := ⟨_, List.getElem?_eq_getElem hlt⟩
        obtain ⟨ba, oa, rfl, hba, c0, c1, c2, hsz⟩ := (H.out.keep HK.out) k x hx
        have HB := Lib.hid (HL.out.box (.cells #[.int .i64 x.kind, .string x.s, .int .i64 x.g] 44))
        have HK3 := Lib.hid (HK.out.alloc (.cells #[.int .i64 x.kind, .string x.s, .int .i64 x.g] 44))
        clear hx HL HK
        go_wp2_with fail
        refine (does_any x HB.out OK.out).mono ?_
        rintro e w3 ⟨b', r', rfl, HL', hb1, hr1, hk1⟩
        have HL3 := Lib.hid HL'
        have OK3 := Lib.hid (St.step_ok OK.out x)
        have HK4 := Lib.hid (HK3.out.trans hk1 (fun i hi e => by omega))
        have hb3 : w.heap.size ≤ b' := by rcases hb1 with e | e; · omega
                                          · exact Nat.le_trans HK3.out.size e
        have hr3 : w.heap.size ≤ r' := by rcases hr1 with e | e; · omega
                                          · exact Nat.le_trans HK3.out.size e
        clear HL' hb1 hr1 hk1 HB OK HK3 c0 c1 c2 hsz hb hr
        generalize (st.step x).1 = st1 at *
        generalize (st.step x).2 = fl at *
        go_wp2_with fail
        refine (now_st HL3.out OK3.out).mono ?_
        rintro e w4 ⟨rfl, k4, rfl⟩
        go_wp2_with fail
        by_cases hback : st1.back = []
        · refine (undoNo_st (HL3.out.drewN k4) OK3.out hback).mono ?_
          rintro e w5 ⟨rfl, k5, rfl⟩
          clear hback
          go_wp2_with fail
          by_cases hforth : st1.forth = []
          · refine (redoNo_st (HL3.out.drewN (k4 + k5)) OK3.out hforth).mono ?_
            rintro e w6 ⟨rfl, k6, rfl⟩
            clear hforth
            go_wp2
            go_roundw
            case rel => exact ⟨k + 1, b', r', st1, by omega, by go_num, rfl, HL3.out, OK3.out, hb3, hr3, HK4.out.drewN _⟩
            case measure => simp [intOf]; omega
          · refine (redoYes_st (HL3.out.drewN (k4 + k5)) OK3.out hforth).mono ?_
            rintro e w6 ⟨rfl, HL6, hk6⟩
            have HL6 := Lib.hid HL6
            have OK6 := Lib.hid (St.redone_ok OK3.out hforth)
            have HK6 := Lib.hid ((HK4.out.drewN (k4 + k5)).trans hk6 (fun i hi e => by omega))
            have HF := Lib.hid hforth
            clear hk6 hforth
            go_wp2_with fail
            refine (undoYes_st HL6.out OK6.out st1.redone_back).mono ?_
            rintro e w7 ⟨rfl, HL7, hk7⟩
            rw [St.redone_undone HF.out] at HL7
            rw [show lastOf st1.redone.back = st1.now from lastOf_snoc _ _]
            have HL7 := Lib.hid HL7
            have HK7 := Lib.hid (HK6.out.trans hk7 (fun i hi e => by omega))
            clear hk7
            go_wp2
            go_roundw
            case rel => exact ⟨k + 1, b', r', st1.closed, by omega, by go_num, rfl, HL7.out, St.closed_ok OK3.out, hb3, hr3, HK7.out⟩
            case measure => simp [intOf]; omega
        · refine (undoYes_st (HL3.out.drewN k4) OK3.out hback).mono ?_
          rintro e w5 ⟨rfl, HL5, hk5⟩
          have HL5 := Lib.hid HL5
          have OK5 := Lib.hid (St.undone_ok OK3.out hback)
          have HK5 := Lib.hid ((HK4.out.drewN k4).trans hk5 (fun i hi e => by omega))
          have HF := Lib.hid hback
          clear hk5 hback
          go_wp2_with fail
          refine (redoYes_st HL5.out OK5.out st1.undone_forth).mono ?_
          rintro e w6 ⟨rfl, HL6, hk6⟩
          rw [St.undone_redone HF.out] at HL6
          rw [show lastOf st1.undone.forth = st1.now from lastOf_snoc _ _]
          have HL6 := Lib.hid HL6
          have OK6 := Lib.hid (St.closed_ok OK3.out)
          have HK6 := Lib.hid (HK5.out.trans hk6 (fun i hi e => by omega))
          clear hk6
          go_wp2_with fail
          by_cases hforth : st1.closed.forth = []
          · refine (redoNo_st HL6.out OK6.out hforth).mono ?_
            rintro e w7 ⟨rfl, k7, rfl⟩
            clear hforth
            go_wp2
            go_roundw
            case rel => exact ⟨k + 1, b', r', st1.closed, by omega, by go_num, rfl, HL6.out, OK6.out, hb3, hr3, HK6.out.drewN _⟩
            case measure => simp [intOf]; omega
          · refine (redoYes_st HL6.out OK6.out hforth).mono ?_
            rintro e w7 ⟨rfl, HL7, hk7⟩
            have HL7 := Lib.hid HL7
            have OK7 := Lib.hid (St.redone_ok OK6.out hforth)
            have HK7 := Lib.hid (HK6.out.trans hk7 (fun i hi e => by omega))
            have HF2 := Lib.hid hforth
            clear hk7 hforth
            go_wp2_with fail
            refine (undoYes_st HL7.out OK7.out st1.closed.redone_back).mono ?_
            rintro e w8 ⟨rfl, HL8, hk8⟩
            rw [St.redone_undone HF2.out] at HL8
            rw [show lastOf st1.closed.redone.back = st1.now from lastOf_snoc _ _]
            have HL8 := Lib.hid HL8
            have HK8 := Lib.hid (HK7.out.trans hk8 (fun i hi e => by omega))
            clear hk8
            go_wp2
            go_roundw
            case rel => exact ⟨k + 1, b', r', st1.closed.closed, by omega, by go_num, rfl, HL8.out, St.closed_ok OK6.out, hb3, hr3, HK8.out⟩
            case measure => simp [intOf]; omega
      · go_wp2_with fail
        refine (alive_any _).mono ?_
        rintro e w3 ⟨rfl, hk3⟩
        have HK3 := Lib.hid (HK.out.trans hk3 (fun _ _ h => h))
        clear hk3
        go_wp2
        go_ret
        exact ⟨rfl, HK3.out⟩
end Go.Proofs.Ytbaggkokoablbaa
