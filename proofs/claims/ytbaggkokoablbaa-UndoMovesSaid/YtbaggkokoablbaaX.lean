/- The walk of UndoRows: it answers true, and keeps all that was there. -/
import Derived.Test.YtbaggkokoablbaaW
namespace Go.Proofs.Ytbaggkokoablbaa
open Go.RowKit Go.BigFrame

/-- The document's state is boxed anew. -/
theorem boxed5' {w W : World} {B : Nat} {u0 u1 u2 u3 u4 v0 v1 v2 v3 v4 : Value} (hB : Blk w B 41 #[u0, u1, u2, u3, u4])
    (hW : ((((w.setCell ⟨B, 0, none⟩ v0).setCell ⟨B, 1, none⟩ v1).setCell ⟨B, 2, none⟩ v2).setCell ⟨B, 3, none⟩ v3).setCell ⟨B, 4, none⟩ v4 = W) :
    Blk W B 41 #[v0, v1, v2, v3, v4] ∧ Keep (· = B) w W := by
  subst hW
  refine ⟨((((hB.set_ 0 v0).set_ 1 v1).set_ 2 v2).set_ 3 v3).set_ 4 v4, ?_⟩
  exact (((((Keep.refl (· = B) w).setCell (p := ⟨B, 0, none⟩) (fun _ => rfl) v0).setCell (p := ⟨B, 1, none⟩) (fun _ => rfl) v1).setCell (p := ⟨B, 2, none⟩) (fun _ => rfl) v2).setCell (p := ⟨B, 3, none⟩) (fun _ => rfl) v3).setCell (p := ⟨B, 4, none⟩) (fun _ => rfl) v4

theorem lastOf_take {l : List ByteArray} {m : Nat} (hm : m < l.length) : l[m]? = some (lastOf (l.take (m + 1))) := by
  have hne : l.take (m + 1) ≠ [] := by
    intro e
    have := congrArg List.length e
    rw [List.length_take, List.length_nil] at this
    omega
  have h := getLast_get hne
  rw [List.length_take, show min (m + 1) l.length - 1 = m by omega, List.getElem?_take, if_pos (by omega)] at h
  exact h

theorem dropLast_take' {l : List ByteArray} {m : Nat} (hm : m < l.length) : (l.take (m + 1)).dropLast = l.take m := by
  rw [List.dropLast_eq_take, List.length_take, show min (m + 1) l.length - 1 = m by omega, List.take_take]
  congr 1
  omega

theorem SlAt.cellAt {w : World} {bad : Nat → Prop} {A : Option Addr} {c : Nat} {l : List ByteArray} (h : SlAt w bad A c l) {i : Nat} {x : ByteArray} (hi : l[i]? = some x) : ∃ b o, A = some ⟨b, o, none⟩ ∧ w.cell? ⟨b, o + i, none⟩ = some (.string x) :=
  h.reads i (.string x) (by rw [List.getElem?_map, hi]; rfl)

def RowsRel (W0 : World) (b2 r2 : Nat) (st : St) (b1 r1 : Nat) (i : Value) (wr : World) : Prop :=
  ∃ (m : Nat) (stm : St), m ≤ st.back.length ∧ i = .int .i64 ((m : Int) - 1) ∧ LogSt wr b1 r1 stm ∧ stm.Ok ∧ stm.back = st.back.take m ∧ LogSt wr b2 r2 st ∧ Keep (fun _ => False) W0 wr
def RowsRel2 (W0 : World) (b1 r1 : Nat) (st1 : St) (st : St) (b2 r2 : Nat) (i : Value) (wr : World) : Prop :=
  ∃ (m : Nat) (stm : St), m ≤ st.forth.length ∧ i = .int .i64 ((m : Int) - 1) ∧ LogSt wr b2 r2 stm ∧ stm.Ok ∧ stm.forth = st.forth.take m ∧ LogSt wr b1 r1 st1 ∧ Keep (fun _ => False) W0 wr

set_option maxRecDepth 100000 in
set_option maxHeartbeats 4000000 in
theorem rows_any (limit : Int) (A : Option Addr) (c : Nat) (l : List Op) (w : World) (h : OpsAt w A l) (hn : l.length * 32 ≤ 140737488351232) :
    Calls Try.prog 6 #[.int .i64 limit, .slice A l.length c] w fun e w' => e = .returned (.bool true) ∧ Keep (fun _ => False) w w' := by
  have H := Lib.hid h
  clear h
  go_enter Try.func6, Try.ntmps6
  go_wp2_with fail
  refine (few_any A c l w H.out hn).mono ?_
  rintro e w1 ⟨fb, rfl, hfb, hk⟩
  have HK1 := Lib.hid hk
  clear hk
  cases fb with
  | false =>
    clear hfb
    go_wp2_with fail
    refine (alive_any w1).mono ?_
    rintro e w2 ⟨rfl, hk⟩
    have HK := Lib.hid (HK1.out.trans hk (fun _ _ h => h))
    clear hk
    go_wp2
    go_ret
    exact ⟨rfl, HK.out⟩
  | true =>
    have h400 : l.length ≤ 400 := hfb rfl
    clear hfb hn
    go_wp2_with fail
    refine (new_st limit w1).mono ?_
    rintro e w2 ⟨b, r, lim, rfl, HL, hlim, hb, hr, hk⟩
    have HLM := Lib.hid hlim
    have HL1 := Lib.hid HL
    have OK1 : Hid (({ lim := lim, back := [], now := ⟨#[]⟩, forth := [], op := 0 } : St).Ok) := ⟨by dsimp only; omega, by dsimp only; omega, by simp⟩
    have HK2 := Lib.hid (HK1.out.trans hk (fun _ _ h => h))
    have hb' : w.heap.size ≤ b := Nat.le_trans HK1.out.size hb
    have hr' : w.heap.size ≤ r := Nat.le_trans HK1.out.size hr
    clear HL hk hlim hb hr HK1
    go_wp2_with fail
    refine (refNew_any ⟨#[]⟩ limit w2).mono ?_
    rintro e w3 ⟨lim2, rfl, hlim2, hk3⟩
    obtain rfl : lim2 = lim := by have := HLM.out; omega
    have HK3 := Lib.hid (HK2.out.trans hk3 (fun _ _ h => h))
    have HL3 := Lib.hid (HL1.out.keep hk3 (fun h => h) (fun h => h))
    clear hlim2 hk3 HL1 HK2
    go_wp2_with fail
    have HBO := Lib.hid (both_start HL3.out OK1.out)
    have HK4 := Lib.hid (HK3.out.alloc (.cells #[.int .i64 lim2, .slice none 0 0, .string ⟨#[]⟩, .slice none 0 0, .int .i64 0] 41))
    have hB3 : w.heap.size ≤ w3.heap.size := HK3.out.size
    go_loopw [5, 33] (ARel w w3.heap.size l.length) (fun _ i _ => l.length - (intOf i).toNat)
    case atStart => exact ⟨0, b, r, _, Nat.zero_le _, rfl, rfl, HBO.out, hb', hr', hB3, HK4.out⟩
    case round =>
      generalize w3.heap.size = B at *
      obtain ⟨k, b, r, st, hk, rfl, rfl, ⟨hL, ok, A1, c1, A2, c2, hB, hS1, hS2⟩, hb, hr, hBB, hK⟩ := hrel
      have HL := Lib.hid hL
      have OK := Lib.hid ok
      have HK := Lib.hid hK
      have HS1 := Lib.hid hS1
      have HS2 := Lib.hid hS2
      have b0 := hB.cell 0
      have b1 := hB.cell 1
      have b2 := hB.cell 2
      have b3 := hB.cell 3
      have b4 := hB.cell 4
      simp at b0 b1 b2 b3 b4
      have hBlt := hB.lt
      have HB := Lib.hid hB
      clear hL ok hK hB hS1 hS2 HBO HK3 HK4 HL3 OK1 hb' hr' hB3 HLM
      by_cases hlt : k < l.length
      · obtain ⟨x, hx⟩ : ∃ x, l[k]? = some x := ⟨_, List.getElem?_eq_getElem hlt⟩
        obtain ⟨ba, oa, rfl, hba, q0, q1, q2, hsz⟩ := (H.out.keep HK.out) k x hx
        clear hx
        have hK8 := keep_box (fun _ => False) wr (.cells #[.int .i64 x.kind, .string x.s, .int .i64 x.g] 44)
        have HL8 := Lib.hid (HL.out.keep hK8 (fun h => h) (fun h => h))
        have HB8 := Lib.hid (HB.out.keep hK8 (fun h => h))
        have HX8 := Lib.hid (Blk.new wr 44 #[.int .i64 x.kind, .string x.s, .int .i64 x.g])
        have HS8 := Lib.hid (HS1.out.keep hK8 (fun _ _ h => h.elim))
        have HT8 := Lib.hid (HS2.out.keep hK8 (fun _ _ h => h.elim))
        have HK8 := Lib.hid (HK.out.trans hK8 (fun _ _ h => h))
        have hbl := (HL.out.lt).1
        have hrl := (HL.out.lt).2
        clear hK8 HL HB HS1 HS2 HK
        go_wp2_with fail
        refine (refDo_any x HS8.out HT8.out OK.out (by simp; omega)).mono ?_
        rintro e w4 ⟨A1', c1', A2', c2', rfl, hS1, hS2, hk4⟩
        unfold refVal
        have HS4 := Lib.hid hS1
        have HT4 := Lib.hid hS2
        have HL4 := Lib.hid (HL8.out.keep hk4 (fun h => h) (fun h => h))
        have hB4 := HB8.out.keep hk4 (fun h => h)
        have HX4 := Lib.hid (HX8.out.keep hk4 (fun h => h))
        have HK4 := Lib.hid (HK8.out.trans hk4 (fun _ _ h => h))
        have OK4 := Lib.hid (St.step_ok OK.out x)
        have g0 := hB4.cell 0
        have g1 := hB4.cell 1
        have g2 := hB4.cell 2
        have g3 := hB4.cell 3
        have g4 := hB4.cell 4
        simp at g0 g1 g2 g3 g4
        have y0 := hB4.frozen 0
        have y1 := hB4.frozen 1
        have y2 := hB4.frozen 2
        have y3 := hB4.frozen 3
        have y4 := hB4.frozen 4
        have hBl4 := hB4.lt
        have HB4 := Lib.hid hB4
        generalize hst' : (st.step x).1 = st' at *
        generalize hfl : (st.step x).2 = fl at *
        have HST := Lib.hid hst'
        have HFL := Lib.hid hfl
        clear hst' hfl hS1 hS2 hk4 hB4 HL8 HB8 HX8 HS8 HT8 HK8 b0 b1 b2 b3 b4 q0 q1 q2
        go_upto_region 10 with fail
        generalize hW5 : ((((w4.setCell ⟨B, 0, none⟩ (.int .i64 st'.lim)).setCell ⟨B, 1, none⟩ (.slice A1' st'.back.length c1')).setCell ⟨B, 2, none⟩ (.string st'.now)).setCell ⟨B, 3, none⟩ (.slice A2' st'.forth.length c2')).setCell ⟨B, 4, none⟩ (.int .i64 st'.op) = W5
        obtain ⟨hB5, hK5⟩ := boxed5' HB4.out hW5
        have hne4 := HL4.out.ne_blk HB4.out (by decide) (by decide)
        have hL5 : LogSt W5 b r st := HL4.out.keep hK5 (by omega) (by omega)
        have hS5 := HS4.out.keep hK5 (fun _ _ e => .inr (.inr e))
        have hT5 := HT4.out.keep hK5 (fun _ _ e => .inr (.inr e))
        have hx5 : Blk W5 wr.heap.size 44 #[.int .i64 x.kind, .string x.s, .int .i64 x.g] := HX4.out.keep hK5 (by omega)
        have q0 := hx5.cell 0
        have q1 := hx5.cell 1
        have q2 := hx5.cell 2
        simp at q0 q1 q2
        have HB5 := Lib.hid hB5
        have HL5 := Lib.hid hL5
        have HS5 := Lib.hid hS5
        have HT5 := Lib.hid hT5
        have HK5 := Lib.hid (HK4.out.trans hK5 (fun _ _ e => by omega))
        have hbl5 := (hL5.lt).1
        have hrl5 := (hL5.lt).2
        have hBl5 := hB5.lt
        clear hW5 hB5 hL5 hS5 hT5 hx5 hK5 HS4 HT4 HL4 HX4 HK4 HB4 g0 g1 g2 g3 g4 y0 y1 y2 y3 y4
        go_wp2_with fail
        refine (does_any x HL5.out OK.out).mono ?_
        rw [HST.out, HFL.out]
        rintro e w6 ⟨b', r', rfl, hL6, hb6, hr6, hk6⟩
        have hS6 : SlAt w6 (fun k => k = b' ∨ k = r' ∨ k = B) A1' c1' st'.back := (HS5.out.renew (bad' := fun k => k = b ∨ k = r ∨ k = b' ∨ k = r' ∨ k = B) (fun k hk h => by omega)).keep hk6 (fun k _ h => by omega) |>.weaken (fun k h => by omega)
        have hT6 : SlAt w6 (fun k => k = b' ∨ k = r' ∨ k = B) A2' c2' st'.forth := (HT5.out.renew (bad' := fun k => k = b ∨ k = r ∨ k = b' ∨ k = r' ∨ k = B) (fun k hk h => by omega)).keep hk6 (fun k _ h => by omega) |>.weaken (fun k h => by omega)
        have HBO7 : Hid (Both w6 b' r' B st') := ⟨hL6, OK4.out, A1', c1', A2', c2', HB5.out.keep hk6 (by omega), hS6, hT6⟩
        have HK7 := Lib.hid (HK5.out.trans hk6 (fun i hi e => by omega))
        have hbb : w.heap.size ≤ b' := by have := HK5.out.size; omega
        have hrr : w.heap.size ≤ r' := by have := HK5.out.size; omega
        clear hL6 hS6 hT6 hb6 hr6 hk6 HB5 HL5 HS5 HT5 HK5 q0 q1 q2 hne4
        go_wp2
        go_roundw
        case rel => exact ⟨k + 1, b', r', st', by omega, by go_num, rfl, HBO7.out, hbb, hrr, hBB, HK7.out⟩
        case measure => simp [intOf]; omega
      · have hl1 := OK.out.most
        have hl2 := OK.out.room
        go_wp2_with fail
        clear hlt hk
        refine (copy_s HL.out (ok_len OK.out)).mono ?_
        rintro e w2 ⟨b1_, r1_, rfl, hL2, hb2, hr2, hk2⟩
        have HC2 := Lib.hid hL2
        have HK2 := Lib.hid hk2
        have HL2 := Lib.hid (HL.out.keep hk2 (fun h => h) (fun h => h))
        have hlt2 := hL2.lt
        clear hL2 hk2
        go_wp2_with fail
        refine (copy_s HL2.out (ok_len OK.out)).mono ?_
        rintro e w3 ⟨b2_, r2_, rfl, hL3, hb3, hr3, hk3⟩
        have HD3 := Lib.hid hL3
        have HC3 := Lib.hid (HC2.out.keep hk3 (fun h => h) (fun h => h))
        have HK3 := Lib.hid (HK2.out.trans hk3 (fun _ _ h => h))
        have hsz3 : wr.heap.size ≤ w3.heap.size := HK3.out.size
        have n1 : (HK2.out.size) = (HK2.out.size) := rfl
        have n2 : wr.heap.size ≤ b2_ := Nat.le_trans HK2.out.size hb3
        have n3 : wr.heap.size ≤ r2_ := Nat.le_trans HK2.out.size hr3
        have hB3 := HB.out.keep HK3.out (fun h => h)
        have e1 := hB3.cell 1
        simp at e1
        clear hL3 hk3 n1 HL2 hB3
        go_wp2_with fail
        obtain ⟨wo, rfl⟩ : ∃ wo : World, wo = wr := ⟨_, rfl⟩
        go_loopw [11] (RowsRel wo b2_ r2_ st b1_ r1_) (fun i _ => (intOf i + 1).toNat)
        case atStart => exact ⟨st.back.length, st, Nat.le_refl _, rfl, HC3.out, OK.out, (List.take_length).symm, HD3.out, HK3.out⟩
        case round =>
          obtain ⟨m, stm, hm, rfl, hLm, okm, hbm, hDm, hKm⟩ := hrel
          have HLm := Lib.hid hLm
          have OKm := Lib.hid okm
          have HBm := Lib.hid hbm
          have HDm := Lib.hid hDm
          have HKm := Lib.hid hKm
          have hB4 := HB.out.keep hKm (fun h => h)
          have e1 := hB4.cell 1
          have e3 := hB4.cell 3
          simp at e1 e3
          clear hLm okm hbm hDm hKm hB4
          match m, hm with
          | 0, hm =>
            clear e1
            rw [show (((0 : Nat) : Int) - 1) = -1 from rfl]
            have hback : stm.back = [] := by rw [HBm.out]; rfl
            have HBK := Lib.hid hback
            clear hback
            go_wp2_with fail
            obtain ⟨wo2, rfl⟩ : ∃ wo2 : World, wo2 = wr := ⟨_, rfl⟩
            go_loopw [14] (RowsRel2 wo b1_ r1_ stm st b2_ r2_) (fun i _ => (intOf i + 1).toNat)
            case atStart => exact ⟨st.forth.length, st, Nat.le_refl _, by go_num, HDm.out, OK.out, (List.take_length).symm, HLm.out, HKm.out⟩
            case round =>
              obtain ⟨m, stn, hm, rfl, hLn, okn, hfn, hCn, hKn⟩ := hrel
              have HLn := Lib.hid hLn
              have OKn := Lib.hid okn
              have HFn := Lib.hid hfn
              have HCn := Lib.hid hCn
              have HKn := Lib.hid hKn
              have hB5 := HB.out.keep hKn (fun h => h)
              have e3 := hB5.cell 3
              have a0 := hB5.cell 0
              have a1 := hB5.cell 1
              have a2 := hB5.cell 2
              have a4 := hB5.cell 4
              simp at e3 a0 a1 a2 a4
              clear hLn okn hfn hCn hKn hB5
              match m, hm with
              | 0, hm =>
                have hforth : stn.forth = [] := by rw [HFn.out]; rfl
                have HFK := Lib.hid hforth
                clear hforth
                go_wp2_with fail
                refine (undoNo_st HCn.out OKm.out HBK.out).mono ?_
                rintro e w5 ⟨rfl, k5, rfl⟩
                go_wp2_with fail
                refine (redoNo_st (HLn.out.drewN k5) OKn.out HFK.out).mono ?_
                rintro e w6 ⟨rfl, k6, rfl⟩
                go_wp2_with fail
                refine (alive_any _).mono ?_
                rintro e w7 ⟨rfl, hk7⟩
                have HK7 := Lib.hid ((HKn.out.drewN (k5 + k6)).trans hk7 (fun _ _ h => h))
                have hB7 := HB.out.keep HK7.out (fun h => h)
                have a0 := hB7.cell 0
                have a1 := hB7.cell 1
                have a2 := hB7.cell 2
                have a3 := hB7.cell 3
                have a4 := hB7.cell 4
                simp at a0 a1 a2 a3 a4
                have HL7 := Lib.hid (HL.out.keep HK7.out (fun h => h) (fun h => h))
                clear hk7 hB7
                go_wp2_with fail
                refine (stands_any st.lim st.op HL7.out OK.out).mono ?_
                rintro e w8 ⟨rfl, hk8⟩
                have HK8 := Lib.hid ((HK.out.trans HK7.out (fun _ _ h => h)).trans hk8 (fun _ _ h => h))
                clear hk8
                go_wp2
                go_ret
                exact ⟨rfl, HK8.out⟩
              | m + 1, hm =>
                have hx := lastOf_take (l := st.forth) (m := m) (by omega)
                obtain ⟨bx, ox, hA, hc⟩ := (HS2.out.keep HKn.out (fun _ _ h => h.elim)).cellAt hx
                subst hA
                have hne : stn.forth ≠ [] := by
                  rw [HFn.out]
                  intro e
                  have := congrArg List.length e
                  rw [List.length_take, List.length_nil] at this
                  omega
                have HNE := Lib.hid hne
                have hlo : (lastOf stn.forth) = lastOf (st.forth.take (m + 1)) := by rw [HFn.out]
                have HLO := Lib.hid hlo
                have hkc : 0 ≤ (m : Int) := by omega
                clear hx hne hlo
                go_wp2_with fail
                refine (redoYes_st HLn.out OKn.out HNE.out).mono ?_
                rw [HLO.out]
                rintro e w5 ⟨rfl, hL5, hk5⟩
                have HL5 := Lib.hid hL5
                have OK5 := Lib.hid (St.redone_ok OKn.out HNE.out)
                have HF5 : Hid (stn.redone.forth = st.forth.take m) := by
                  show _ = _
                  unfold St.redone
                  dsimp only
                  rw [HFn.out]
                  exact dropLast_take' (by omega)
                have hb2K : ∀ i, i < wo.heap.size → ¬ i = b2_ := by intro i hi; omega
                have HK5 := Lib.hid (HKn.out.trans hk5 (fun i hi e => hb2K i hi e))
                have HC5 := Lib.hid (HCn.out.keep hk5 (by omega) (by omega))
                have hB6 := HB.out.keep HK5.out (fun h => h)
                have e3 := hB6.cell 3
                simp at e3
                have hc5 := ((HS2.out.keep HK5.out (fun _ _ h => h.elim)).cellAt (lastOf_take (l := st.forth) (m := m) (by omega)))
                obtain ⟨bx', ox', hA', hc5⟩ := hc5
                injection hA' with hA'
                injection hA' with hA1 hA2 _
                subst hA1 hA2
                clear hL5 hk5 hB6 hc a0 a1 a2 a4
                go_wp2
                go_roundw
                case rel => exact ⟨m, stn.redone, by omega, by go_num, HL5.out, OK5.out, HF5.out, HC5.out, HK5.out⟩
                case measure => (simp [intOf]; try omega)
          | m + 1, hm =>
            have hx := lastOf_take (l := st.back) (m := m) (by omega)
            obtain ⟨bx, ox, hA, hc⟩ := (HS1.out.keep HKm.out (fun _ _ h => h.elim)).cellAt hx
            subst hA
            have hne : stm.back ≠ [] := by
              rw [HBm.out]
              intro e
              have := congrArg List.length e
              rw [List.length_take, List.length_nil] at this
              omega
            have HNE := Lib.hid hne
            have hlo : (lastOf stm.back) = lastOf (st.back.take (m + 1)) := by rw [HBm.out]
            have HLO := Lib.hid hlo
            clear hx hne hlo
            go_wp2_with fail
            refine (undoYes_st HLm.out OKm.out HNE.out).mono ?_
            rw [HLO.out]
            rintro e w5 ⟨rfl, hL5, hk5⟩
            have HL5 := Lib.hid hL5
            have OK5 := Lib.hid (St.undone_ok OKm.out HNE.out)
            have HB5 : Hid (stm.undone.back = st.back.take m) := by
              show _ = _
              unfold St.undone
              dsimp only
              rw [HBm.out]
              exact dropLast_take' (by omega)
            have hb1K : ∀ i, i < wo.heap.size → ¬ i = b1_ := by intro i hi; omega
            have HK5 := Lib.hid (HKm.out.trans hk5 (fun i hi e => hb1K i hi e))
            have HD5 := Lib.hid (HDm.out.keep hk5 (by omega) (by omega))
            have hB6 := HB.out.keep HK5.out (fun h => h)
            have e1 := hB6.cell 1
            simp at e1
            have hc5 := ((HS1.out.keep HK5.out (fun _ _ h => h.elim)).cellAt (lastOf_take (l := st.back) (m := m) (by omega)))
            obtain ⟨bx', ox', hA', hc5⟩ := hc5
            injection hA' with hA'
            injection hA' with hA1 hA2 _
            subst hA1 hA2
            clear hL5 hk5 hB6 hc e3
            go_wp2
            go_roundw
            case rel => exact ⟨m, stm.undone, by omega, by go_num, HL5.out, OK5.out, HB5.out, HD5.out, HK5.out⟩
            case measure => (simp [intOf]; try omega)
end Go.Proofs.Ytbaggkokoablbaa
