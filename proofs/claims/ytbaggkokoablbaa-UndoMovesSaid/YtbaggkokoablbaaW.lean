/- The walk of UndoAll: it answers true, and keeps all that was there. -/
import Derived.Test.YtbaggkokoablbaaRD
import Derived.Test.YtbaggkokoablbaaA
import Derived.Deep.CutRange
namespace Go.Proofs.Ytbaggkokoablbaa
open Go.RowKit Go.BigFrame

/-- Log and document stand side by side: the log at b, its row in r; the document's state boxed at B. -/
def Both (w : World) (b r B : Nat) (st : St) : Prop :=
  LogSt w b r st ∧ st.Ok ∧ ∃ A1 c1 A2 c2, Blk w B 41 #[.int .i64 st.lim, .slice A1 st.back.length c1, .string st.now, .slice A2 st.forth.length c2, .int .i64 st.op] ∧
    SlAt w (fun k => k = b ∨ k = r ∨ k = B) A1 c1 st.back ∧ SlAt w (fun k => k = b ∨ k = r ∨ k = B) A2 c2 st.forth

def ARel (w : World) (B n : Nat) (l i : Value) (wr : World) : Prop :=
  ∃ (k b r : Nat) (st : St), k ≤ n ∧ i = .int .i64 k ∧ l = .pointer (some ⟨b, 0, none⟩) ∧ Both wr b r B st ∧ w.heap.size ≤ b ∧ w.heap.size ≤ r ∧ w.heap.size ≤ B ∧ Keep (fun _ => False) w wr

theorem both_start {w : World} {b r lim : Nat} (hL : LogSt w b r { lim := lim, back := [], now := ⟨#[]⟩, forth := [], op := 0 }) (ok : ({ lim := lim, back := [], now := ⟨#[]⟩, forth := [], op := 0 } : St).Ok) :
    Both (w.alloc (.cells #[.int .i64 lim, .slice none 0 0, .string ⟨#[]⟩, .slice none 0 0, .int .i64 0] 41)) b r w.heap.size { lim := lim, back := [], now := ⟨#[]⟩, forth := [], op := 0 } :=
  ⟨hL.box _, ok, none, 0, none, 0, Blk.new _ _ _, SlAt.nil_ _ _, SlAt.nil_ _ _⟩

theorem SlAt.renew {w : World} {bad bad' : Nat → Prop} {A : Option Addr} {c : Nat} {l : List ByteArray} (h : SlAt w bad A c l) (hb : ∀ k, k < w.heap.size → bad' k → bad k) : SlAt w bad' A c l :=
  ⟨h.reads, h.nil, h.cap, fun b o hA => ⟨fun hb' => (h.far b o hA).1 (hb b (h.far b o hA).2 hb'), (h.far b o hA).2⟩, h.spot⟩

theorem LogAt.ne_blk {α : Type} {T E t : TypeId} {V : α → Value} {w : World} {b r lim B : Nat} {xs : List α} {at_ : Nat} {op : Int} {cs : Array Value} (h : LogAt T E V w b r lim xs at_ op) (hB : Blk w B t cs) (h1 : t ≠ T) (h2 : t ≠ E) : B ≠ b ∧ B ≠ r := by
  obtain ⟨o, c, cur, hb, hr, _⟩ := h
  exact ⟨hB.ne_ hb h1, hB.ne_ hr h2⟩

/-- The document's state is boxed anew. -/
theorem boxed5 {w W : World} {B : Nat} {u0 u1 u2 u3 u4 v0 v1 v2 v3 v4 : Value} {o : Obj} (hB : Blk w B 41 #[u0, u1, u2, u3, u4])
    (hW : (((((w.setCell ⟨B, 0, none⟩ v0).setCell ⟨B, 1, none⟩ v1).setCell ⟨B, 2, none⟩ v2).setCell ⟨B, 3, none⟩ v3).setCell ⟨B, 4, none⟩ v4).alloc o = W) :
    Blk W B 41 #[v0, v1, v2, v3, v4] ∧ Keep (· = B) w W := by
  subst hW
  refine ⟨(((((hB.set_ 0 v0).set_ 1 v1).set_ 2 v2).set_ 3 v3).set_ 4 v4).alloc o, ?_⟩
  exact ((((((Keep.refl (· = B) w).setCell (p := ⟨B, 0, none⟩) (fun _ => rfl) v0).setCell (p := ⟨B, 1, none⟩) (fun _ => rfl) v1).setCell (p := ⟨B, 2, none⟩) (fun _ => rfl) v2).setCell (p := ⟨B, 3, none⟩) (fun _ => rfl) v3).setCell (p := ⟨B, 4, none⟩) (fun _ => rfl) v4).alloc o

set_option maxRecDepth 100000 in
set_option maxHeartbeats 4000000 in
theorem all_any (limit : Int) (A : Option Addr) (c : Nat) (l : List Op) (w : World) (h : OpsAt w A l) (hn : l.length * 32 ≤ 140737488351232) :
    Calls Try.prog 5 #[.int .i64 limit, .slice A l.length c] w fun e w' => e = .returned (.bool true) ∧ Keep (fun _ => False) w w' := by
  have H := Lib.hid h
  clear h
  go_enter Try.func5, Try.ntmps5
  go_wp2_with fail
  refine (few_any A c l w H.out hn).mono ?_
  rintro e w1 ⟨fb, rfl, hfb, hk⟩
  have HK1 := Lib.hid hk
  clear hk
  cases fb with
  | false =>
    clear hfb
    go_wp2_with fail
    refine (alive_any w1).mono ?_
    rintro e w2 ⟨rfl, hk⟩
    have HK := Lib.hid (HK1.out.trans hk (fun _ _ h => h))
    clear hk
    go_wp2
    go_ret
    exact ⟨rfl, HK.out⟩
  | true =>
    have h400 : l.length ≤ 400 := hfb rfl
    clear hfb hn
    go_wp2_with fail
    refine (new_st limit w1).mono ?_
    rintro e w2 ⟨b, r, lim, rfl, HL, hlim, hb, hr, hk⟩
    have HLM := Lib.hid hlim
    have HL1 := Lib.hid HL
    have OK1 : Hid (({ lim := lim, back := [], now := ⟨#[]⟩, forth := [], op := 0 } : St).Ok) := ⟨by dsimp only; omega, by dsimp only; omega, by simp⟩
    have HK2 := Lib.hid (HK1.out.trans hk (fun _ _ h => h))
    have hb' : w.heap.size ≤ b := Nat.le_trans HK1.out.size hb
    have hr' : w.heap.size ≤ r := Nat.le_trans HK1.out.size hr
    clear HL hk hlim hb hr HK1
    go_wp2_with fail
    refine (refNew_any ⟨#[]⟩ limit w2).mono ?_
    rintro e w3 ⟨lim2, rfl, hlim2, hk3⟩
    obtain rfl : lim2 = lim := by have := HLM.out; omega
    have HK3 := Lib.hid (HK2.out.trans hk3 (fun _ _ h => h))
    have HL3 := Lib.hid (HL1.out.keep hk3 (fun h => h) (fun h => h))
    clear hlim2 hk3 HL1 HK2
    go_wp2_with fail
    have HBO := Lib.hid (both_start HL3.out OK1.out)
    have HK4 := Lib.hid (HK3.out.alloc (.cells #[.int .i64 lim2, .slice none 0 0, .string ⟨#[]⟩, .slice none 0 0, .int .i64 0] 41))
    have hB3 : w.heap.size ≤ w3.heap.size := HK3.out.size
    go_loopw [5, 26] (ARel w w3.heap.size l.length) (fun _ i _ => l.length - (intOf i).toNat)
    case atStart => exact ⟨0, b, r, _, Nat.zero_le _, rfl, rfl, HBO.out, hb', hr', hB3, HK4.out⟩
    case round =>
      generalize w3.heap.size = B at *
      obtain ⟨k, b, r, st, hk, rfl, rfl, ⟨hL, ok, A1, c1, A2, c2, hB, hS1, hS2⟩, hb, hr, hBB, hK⟩ := hrel
      have HL := Lib.hid hL
      have OK := Lib.hid ok
      have HK := Lib.hid hK
      have HS1 := Lib.hid hS1
      have HS2 := Lib.hid hS2
      have b0 := hB.cell 0
      have b1 := hB.cell 1
      have b2 := hB.cell 2
      have b3 := hB.cell 3
      have b4 := hB.cell 4
      simp at b0 b1 b2 b3 b4
      have hBlt := hB.lt
      have HB := Lib.hid hB
      clear hL ok hK hB hS1 hS2 HBO HK3 HK4 HL3 OK1 hb' hr' hB3 HLM
      by_cases hlt : k < l.length
      · obtain ⟨x, hx⟩ : ∃ x, l[k]? = some x := ⟨_, List.getElem?_eq_getElem hlt⟩
        obtain ⟨ba, oa, rfl, hba, q0, q1, q2, hsz⟩ := (H.out.keep HK.out) k x hx
        clear hx
        have hK8 := keep_box (fun _ => False) wr (.cells #[.int .i64 x.kind, .string x.s, .int .i64 x.g] 44)
        have HL8 := Lib.hid (HL.out.keep hK8 (fun h => h) (fun h => h))
        have HB8 := Lib.hid (HB.out.keep hK8 (fun h => h))
        have HX8 := Lib.hid (Blk.new wr 44 #[.int .i64 x.kind, .string x.s, .int .i64 x.g])
        have HS8 := Lib.hid (HS1.out.keep hK8 (fun _ _ h => h.elim))
        have HT8 := Lib.hid (HS2.out.keep hK8 (fun _ _ h => h.elim))
        have HK8 := Lib.hid (HK.out.trans hK8 (fun _ _ h => h))
        have hbl := (HL.out.lt).1
        have hrl := (HL.out.lt).2
        clear hK8 HL HB HS1 HS2 HK
        go_wp2_with fail
        refine (refDo_any x HS8.out HT8.out OK.out (by simp; omega)).mono ?_
        rintro e w4 ⟨A1', c1', A2', c2', rfl, hS1, hS2, hk4⟩
        unfold refVal
        have HS4 := Lib.hid hS1
        have HT4 := Lib.hid hS2
        have HL4 := Lib.hid (HL8.out.keep hk4 (fun h => h) (fun h => h))
        have hB4 := HB8.out.keep hk4 (fun h => h)
        have HX4 := Lib.hid (HX8.out.keep hk4 (fun h => h))
        have HK4 := Lib.hid (HK8.out.trans hk4 (fun _ _ h => h))
        have OK4 := Lib.hid (St.step_ok OK.out x)
        have g0 := hB4.cell 0
        have g1 := hB4.cell 1
        have g2 := hB4.cell 2
        have g3 := hB4.cell 3
        have g4 := hB4.cell 4
        simp at g0 g1 g2 g3 g4
        have y0 := hB4.frozen 0
        have y1 := hB4.frozen 1
        have y2 := hB4.frozen 2
        have y3 := hB4.frozen 3
        have y4 := hB4.frozen 4
        have hBl4 := hB4.lt
        have HB4 := Lib.hid hB4
        generalize hst' : (st.step x).1 = st' at *
        generalize hfl : (st.step x).2 = fl at *
        have HST := Lib.hid hst'
        have HFL := Lib.hid hfl
        clear hst' hfl hS1 hS2 hk4 hB4 HL8 HB8 HX8 HS8 HT8 HK8 b0 b1 b2 b3 b4 q0 q1 q2
        go_upto_region 11 with fail
        generalize hW5 : (((((w4.setCell ⟨B, 0, none⟩ (.int .i64 st'.lim)).setCell ⟨B, 1, none⟩ (.slice A1' st'.back.length c1')).setCell ⟨B, 2, none⟩ (.string st'.now)).setCell ⟨B, 3, none⟩ (.slice A2' st'.forth.length c2')).setCell ⟨B, 4, none⟩ (.int .i64 st'.op)).alloc
          (.cells #[.int .i64 st'.lim, .slice A1' st'.back.length c1', .string st'.now, .slice A2' st'.forth.length c2', .int .i64 st'.op] 41) = W5
        obtain ⟨hB5, hK5⟩ := boxed5 HB4.out hW5
        have hne4 := HL4.out.ne_blk HB4.out (by decide) (by decide)
        have hL5 : LogSt W5 b r st := HL4.out.keep hK5 (by omega) (by omega)
        have hS5 := HS4.out.keep hK5 (fun _ _ e => .inr (.inr e))
        have hT5 := HT4.out.keep hK5 (fun _ _ e => .inr (.inr e))
        have hx5 : Blk W5 wr.heap.size 44 #[.int .i64 x.kind, .string x.s, .int .i64 x.g] := HX4.out.keep hK5 (by omega)
        have q0 := hx5.cell 0
        have q1 := hx5.cell 1
        have q2 := hx5.cell 2
        simp at q0 q1 q2
        have HB5 := Lib.hid hB5
        have HL5 := Lib.hid hL5
        have HS5 := Lib.hid hS5
        have HT5 := Lib.hid hT5
        have HK5 := Lib.hid (HK4.out.trans hK5 (fun _ _ e => by omega))
        have hbl5 := (hL5.lt).1
        have hrl5 := (hL5.lt).2
        have hBl5 := hB5.lt
        clear hW5 hB5 hL5 hS5 hT5 hx5 hK5 HS4 HT4 HL4 HX4 HK4 HB4 g0 g1 g2 g3 g4 y0 y1 y2 y3 y4
        go_wp2_with fail
        refine (does_any x HL5.out OK.out).mono ?_
        rw [HST.out, HFL.out]
        rintro e w6 ⟨b', r', rfl, hL6, hb6, hr6, hk6⟩
        have hB6 := HB5.out.keep hk6 (by omega)
        have g0 := hB6.cell 0
        have g1 := hB6.cell 1
        have g2 := hB6.cell 2
        have g3 := hB6.cell 3
        have g4 := hB6.cell 4
        simp at g0 g1 g2 g3 g4
        have HB6 := Lib.hid hB6
        have HL6 := Lib.hid hL6
        have HS6 : Hid (SlAt w6 (fun k => k = b' ∨ k = r' ∨ k = B) A1' c1' st'.back) := (HS5.out.renew (bad' := fun k => k = b ∨ k = r ∨ k = b' ∨ k = r' ∨ k = B) (fun k hk h => by omega)).keep hk6 (fun k _ h => by omega) |>.weaken (fun k h => by omega)
        have HT6 : Hid (SlAt w6 (fun k => k = b' ∨ k = r' ∨ k = B) A2' c2' st'.forth) := (HT5.out.renew (bad' := fun k => k = b ∨ k = r ∨ k = b' ∨ k = r' ∨ k = B) (fun k hk h => by omega)).keep hk6 (fun k _ h => by omega) |>.weaken (fun k h => by omega)
        have HK6 := Lib.hid (HK5.out.trans hk6 (fun i hi e => by omega))
        have hbb : w.heap.size ≤ b' := by have := HK5.out.size; omega
        have hrr : w.heap.size ≤ r' := by have := HK5.out.size; omega
        clear hB6 hL6 hb6 hr6 hk6 HB5 HL5 HS5 HT5 HK5 q0 q1 q2 hne4
        go_wp2_with fail
        refine (stands_any st'.lim st'.op HL6.out OK4.out).mono ?_
        rintro e w7 ⟨rfl, hk7⟩
        have HBO7 : Hid (Both w7 b' r' B st') := ⟨HL6.out.keep hk7 (fun h => h) (fun h => h), OK4.out, A1', c1', A2', c2', HB6.out.keep hk7 (fun h => h), HS6.out.keep hk7 (fun _ _ h => h.elim), HT6.out.keep hk7 (fun _ _ h => h.elim)⟩
        have HK7 := Lib.hid (HK6.out.trans hk7 (fun _ _ h => h))
        clear hk7 HB6 HL6 HS6 HT6 HK6 g0 g1 g2 g3 g4
        go_wp2
        go_roundw
        case rel => exact ⟨k + 1, b', r', st', by omega, by go_num, rfl, HBO7.out, hbb, hrr, hBB, HK7.out⟩
        case measure => simp [intOf]; omega
      · go_wp2_with fail
        refine (alive_any _).mono ?_
        rintro e w9 ⟨rfl, hk9⟩
        have HK9 := Lib.hid (HK.out.trans hk9 (fun _ _ h => h))
        clear hk9
        go_wp2
        go_ret
        exact ⟨rfl, HK9.out⟩
end Go.Proofs.Ytbaggkokoablbaa
