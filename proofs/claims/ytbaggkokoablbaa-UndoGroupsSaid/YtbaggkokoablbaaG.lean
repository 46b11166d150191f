/- The walk of UndoGroups: it answers true, and keeps all that was there. -/
import Derived.Test.YtbaggkokoablbaaS
import Derived.Test.YtbaggkokoablbaaA
namespace Go.Proofs.Ytbaggkokoablbaa
open Go.RowKit Go.BigFrame

/-- A slice of strings, nil let in. -/
def StrsAt (w : World) (A : Option Addr) (ss : List ByteArray) : Prop :=
  ∀ (i : Nat) (x : ByteArray), ss[i]? = some x → ∃ b o, A = some ⟨b, o, none⟩ ∧ w.cell? ⟨b, o + i, none⟩ = some (.string x)

def GRel (w : World) (b : Nat) (first : ByteArray) (g : Int) (n : Nat) (dn i : Value) (wr : World) : Prop :=
  ∃ (k r : Nat), k ≤ n ∧ i = .int .i64 k ∧ w.heap.size ≤ r ∧ Keep (fun _ => False) w wr ∧
    ((dn = .bool false ∧ Log_s wr b r 9 [first] 0 0) ∨ (dn = .bool true ∧ ∃ x, Log_s wr b r 9 [first, x] 1 g))

set_option maxHeartbeats 1000000 in
theorem groups_any (first : ByteArray) (A : Option Addr) (c : Nat) (ss : List ByteArray) (g : Int) (w : World) (hs : StrsAt w A ss) (hn : ss.length * 16 ≤ 140737488351232) :
    Calls Try.prog 3 #[.string first, .slice A ss.length c, .int .i64 g] w fun e w' => e = .returned (.bool true) ∧ Keep (fun _ => False) w w' := by
  by_cases hbig : 100 < ss.length
  · go_enter Try.func3, Try.ntmps3
    go_wp2_with fail
    refine (alive_any w).mono ?_
    rintro e w1 ⟨rfl, hk⟩
    have HK := Lib.hid hk
    clear hk
    go_wp2
    go_ret
    exact ⟨rfl, HK.out⟩
  by_cases hg : g < 1
  · go_enter Try.func3, Try.ntmps3
    go_wp2_with fail
    refine (alive_any w).mono ?_
    rintro e w1 ⟨rfl, hk⟩
    have HK := Lib.hid hk
    clear hk
    go_wp2
    go_ret
    exact ⟨rfl, HK.out⟩
  have HS := Lib.hid hs
  clear hs
  go_enter Try.func3, Try.ntmps3
  go_wp2_with fail
  refine (new_s first 9 w).mono ?_
  rintro e w1 ⟨b, r, lim, rfl, HL, hlim, hb, hr, hk⟩
  obtain rfl : lim = 9 := by omega
  have HL1 := Lib.hid HL
  have HK1 := Lib.hid hk
  clear HL hk hlim
  go_wp2_with fail
  go_loopw [8, 29] (GRel w b first g ss.length) (fun _ i _ => ss.length - (intOf i).toNat)
  case atStart => exact ⟨0, r, Nat.zero_le _, rfl, hr, HK1.out, .inl ⟨rfl, HL1.out⟩⟩
  case round =>
    obtain ⟨k, r', hk, rfl, hr', hK, hst⟩ := hrel
    have HK := Lib.hid hK
    have HST := Lib.hid hst
    clear hK hst HL1 HK1 hr
    by_cases hlt : k < ss.length
    · obtain ⟨x, hx⟩ : ∃ x, ss[k]? = some x := ⟨_, List.getElem?_eq_getElem hlt⟩
      obtain ⟨ba, oa, rfl, hc⟩ := HS.out k x hx
      have hcx := (World.cell?_of_block (HK.out.block ba (World.block_lt_of_cell? w _ hc) (fun h => h))).trans hc
      clear hx hc
      go_wp2_with fail
      rcases HST.out with ⟨rfl, HL⟩ | ⟨rfl, y, HL⟩
      · have HL := Lib.hid HL
        by_cases he : (x.toList == first.toList) = true
        · refine (doSame_s (s := x) (v := first) g HL.out (by simp) rfl he).mono ?_
          rintro e w2 ⟨rfl, k2, rfl⟩
          clear HST he
          go_wp2
          go_roundw
          case rel => exact ⟨k + 1, r', by omega, by go_num, hr', HK.out.drewN k2, .inl ⟨rfl, HL.out⟩⟩
          case measure => simp [intOf]; omega
        · have he' : (x.toList == first.toList) = false := by simpa using he
          refine (doNewB_s (s := x) (v := first) (g := g) HL.out (by simp) (by omega) (by omega) rfl he' (by omega) (by simp; omega)).mono ?_
          rintro e w2 ⟨r2, rfl, HL2, hr2, hk2⟩
          have HL2 : Hid (Log_s w2 b r2 9 [first, x] 1 g) := by rw [show max g 0 = g by omega] at HL2; exact HL2
          have HK2 := Lib.hid (HK.out.trans hk2 (fun i hi e => by omega))
          have hr2' : w.heap.size ≤ r2 := Nat.le_trans HK.out.size hr2
          clear HST he he' hk2 hr2
          go_wp2
          go_roundw
          case rel => exact ⟨k + 1, r2, by omega, by go_num, hr2', HK2.out, .inr ⟨rfl, x, HL2.out⟩⟩
          case measure => simp [intOf]; omega
      · have HL := Lib.hid HL
        by_cases he : (x.toList == y.toList) = true
        · refine (doSame_s (s := x) (v := y) g HL.out (by simp) rfl he).mono ?_
          rintro e w2 ⟨rfl, k2, rfl⟩
          clear HST he
          go_wp2
          go_roundw
          case rel => exact ⟨k + 1, r', by omega, by go_num, hr', HK.out.drewN k2, .inr ⟨rfl, y, HL.out⟩⟩
          case measure => simp [intOf]; omega
        · have he' : (x.toList == y.toList) = false := by simpa using he
          refine (doNewC_s (s := x) (v := y) (g := g) HL.out (by simp) (by omega) (by omega) rfl he' (by omega) (by simp)).mono ?_
          rintro e w2 ⟨r2, rfl, HL2, hr2, hk2⟩
          have HL2 : Hid (Log_s w2 b r2 9 [first, x] 1 g) := by rw [show max g 0 = g by omega] at HL2; exact HL2
          have HK2 := Lib.hid (HK.out.trans hk2 (fun i hi e => by omega))
          have hr2' : w.heap.size ≤ r2 := Nat.le_trans HK.out.size hr2
          clear HST he he' hk2 hr2
          go_wp2
          go_roundw
          case rel => exact ⟨k + 1, r2, by omega, by go_num, hr2', HK2.out, .inr ⟨rfl, x, HL2.out⟩⟩
          case measure => simp [intOf]; omega
    · rcases HST.out with ⟨rfl, HL⟩ | ⟨rfl, y, HL⟩
      · have HL := Lib.hid HL
        clear HST
        go_wp2_with fail
        refine (len_s HL.out (by simp)).mono ?_
        rintro e w2 ⟨rfl, k2, rfl⟩
        go_wp2_with fail
        refine (undoNo_s (v := first) (HL.out.drewN k2) (by simp) rfl).mono ?_
        rintro e w3 ⟨rfl, k3, rfl⟩
        go_wp2_with fail
        refine (alive_any _).mono ?_
        rintro e w4 ⟨rfl, hk4⟩
        have HK4 := Lib.hid hk4
        clear hk4
        go_wp2
        go_ret
        exact ⟨by simp, (HK.out.drewN _).trans HK4.out (fun _ _ h => h)⟩
      · have HL := Lib.hid HL
        clear HST
        go_wp2_with fail
        refine (len_s HL.out (by simp)).mono ?_
        rintro e w2 ⟨rfl, k2, rfl⟩
        go_wp2_with fail
        refine (undoYes_s (v := first) (HL.out.drewN k2) (by simp) rfl).mono ?_
        rintro e w3 ⟨rfl, HL3, hk3⟩
        have HK3 := Lib.hid (((HK.out.drewN k2).trans hk3 (fun i hi e => by omega)))
        clear hk3 HL3
        go_wp2_with fail
        refine (alive_any _).mono ?_
        rintro e w4 ⟨rfl, hk4⟩
        have HK4 := Lib.hid (HK3.out.trans hk4 (fun _ _ h => h))
        clear hk4
        go_wp2
        go_ret
        exact ⟨by simp, HK4.out⟩
end Go.Proofs.Ytbaggkokoablbaa
