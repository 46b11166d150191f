/- The reference: New, Do in all its ways; stands. -/
import Derived.Test.YtbaggkokoablbaaRA
import Derived.Test.YtbaggkokoablbaaRB
import Derived.Test.YtbaggkokoablbaaRU
import Derived.Test.YtbaggkokoablbaaRR
import Derived.Test.YtbaggkokoablbaaE
namespace Go.Proofs.Ytbaggkokoablbaa
open Go.RowKit Go.BigFrame

/-- Any call of the script, by the document. -/
theorem refDo_any {st : St} (o : Op) {w : World} {bad : Nat → Prop} {A1 A2 : Option Addr} {c1 c2 : Nat} (h1 : SlAt w bad A1 c1 st.back) (h2 : SlAt w bad A2 c2 st.forth) (ok : st.Ok) (hbad : ∀ k, w.heap.size ≤ k → ¬ bad k) :
    Calls Try.prog 21 #[refVal st A1 c1 A2 c2, .agg #[.int .i64 o.kind, .string o.s, .int .i64 o.g]] w (RefPost w bad (st.step o).1 (st.step o).2) := by
  obtain ⟨kind, s, g⟩ := o
  unfold refVal
  dsimp only
  by_cases k0 : kind = 0
  · subst k0
    cases hs : (s.toList == st.now.toList) with
    | true => exact refDo_same h1 h2 ok hbad hs
    | false =>
      by_cases hg : g ≤ 0
      · exact refDo_newA h1 h2 ok hbad hs hg
      · by_cases ho : g = st.op
        · exact refDo_group h1 h2 ok hbad hs (by omega) ho
        · exact refDo_newB h1 h2 ok hbad hs (by omega) ho
  by_cases k1 : kind = 1
  · subst k1; exact refDo_move h1 h2 ok hbad
  by_cases k2 : kind = 2
  · subst k2; exact refDo_break h1 h2 ok hbad
  by_cases k3 : kind = 3
  · subst k3
    by_cases hb : st.back = []
    · exact refDo_undoNo h1 h2 ok hbad hb
    · exact refDo_undoYes h1 h2 ok hbad hb
  by_cases k4 : kind = 4
  · subst k4
    by_cases hb : st.forth = []
    · exact refDo_redoNo h1 h2 ok hbad hb
    · exact refDo_redoYes h1 h2 ok hbad hb
  exact refDo_other h1 h2 ok hbad (by omega)

def RefNewPost (w : World) (first : ByteArray) (limit : Int) (e : Ending) (w' : World) : Prop :=
  ∃ lim : Nat, e = .returned (.agg #[.int .i64 lim, .slice none 0 0, .string first, .slice none 0 0, .int .i64 0]) ∧ (lim : Int) = min (max limit 1) 256 ∧ Keep (fun _ => False) w w'

theorem refNew_end {w w' : World} {first : ByteArray} {limit x : Int} (hx : x = min (max limit 1) 256) (hk : Keep (fun _ => False) w w') :
    RefNewPost w first limit (.returned (.agg #[.int .i64 x, .slice none 0 0, .string first, .slice none 0 0, .int .i64 0])) w' := by
  obtain ⟨lim, rfl⟩ : ∃ lim : Nat, x = (lim : Int) := ⟨x.toNat, by omega⟩
  exact ⟨lim, rfl, hx, hk⟩

set_option maxHeartbeats 1000000 in
theorem refNew_any (first : ByteArray) (limit : Int) (w : World) : Calls Try.prog 20 #[.string first, .int .i64 limit] w (RefNewPost w first limit) := by
  by_cases h1 : limit < 1
  · go_enter Try.func20, Try.ntmps20
    go_wp2
    refine bodyPost_ret (v := .agg #[.int .i64 1, .slice none 0 0, .string first, .slice none 0 0, .int .i64 0]) (by simp [results, Try.results20, go_sem]) rfl ?_
    exact refNew_end (by omega) ((Keep.refl _ w).alloc _)
  · by_cases h2 : 256 < limit
    · go_enter Try.func20, Try.ntmps20
      go_wp2
      refine bodyPost_ret (v := .agg #[.int .i64 256, .slice none 0 0, .string first, .slice none 0 0, .int .i64 0]) (by simp [results, Try.results20, go_sem]) rfl ?_
      exact refNew_end (by omega) ((Keep.refl _ w).alloc _)
    · go_enter Try.func20, Try.ntmps20
      go_wp2
      refine bodyPost_ret (v := .agg #[.int .i64 limit, .slice none 0 0, .string first, .slice none 0 0, .int .i64 0]) (by simp [results, Try.results20, go_sem]) rfl ?_
      exact refNew_end (by omega) ((Keep.refl _ w).alloc _)

set_option maxHeartbeats 1000000 in
theorem stands_any {st : St} {b r : Nat} {A1 A2 : Option Addr} {c1 c2 : Nat} (x y : Int) {w : World} (h : LogSt w b r st) (ok : st.Ok) :
    Calls Try.prog 23 #[.pointer (some ⟨b, 0, none⟩), .agg #[.int .i64 x, .slice A1 st.back.length c1, .string st.now, .slice A2 st.forth.length c2, .int .i64 y]] w fun e w' => e = .returned (.bool true) ∧ Keep (fun _ => False) w w' := by
  have H := Lib.hid (h.box (.cells #[.int .i64 x, .slice A1 st.back.length c1, .string st.now, .slice A2 st.forth.length c2, .int .i64 y] 41))
  have OK := Lib.hid ok
  have hl1 := ok.most
  have hl2 := ok.room
  have hxl : ((st.xs.length : Int) - 1 - st.back.length) = st.forth.length := by rw [St.xs_length]; omega
  have HXL := Lib.hid hxl
  clear h hxl ok
  go_enter Try.func23, Try.ntmps23
  go_wp2_with fail
  refine (len_s H.out (ok_len OK.out)).mono ?_
  rintro e w1 ⟨rfl, k1, hw1⟩
  rw [HXL.out]
  have hL1 : LogSt w1 b r st := by rw [hw1]; exact H.out.drewN k1
  have hK1 : Keep (fun _ => False) w w1 := by rw [hw1]; exact ((Keep.refl _ w).alloc _).drewN _
  have hB1 : Blk w1 w.heap.size 41 #[.int .i64 x, .slice A1 st.back.length c1, .string st.now, .slice A2 st.forth.length c2, .int .i64 y] := by rw [hw1]; exact (Blk.new w 41 _).drewN k1
  have b1 := hB1.cell 1
  have b2 := hB1.cell 2
  have b3 := hB1.cell 3
  simp at b1 b2 b3
  have HL1 := Lib.hid hL1
  have HK1 := Lib.hid hK1
  clear hL1 hK1 hB1 hw1 H
  go_wp2_with fail
  go_quiet ((go_at_call 26; exact Calls.quiet_of (now_st (HL1.out.drewN _) OK.out)))
  go_wp2
  go_ret
  exact ⟨by simp, HK1.out.drewN _⟩
end Go.Proofs.Ytbaggkokoablbaa
