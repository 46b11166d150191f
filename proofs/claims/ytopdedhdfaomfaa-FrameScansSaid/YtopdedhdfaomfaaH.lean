/- The reference's division walked. -/
import Derived.Test.YtopdedhdfaomfaaE
import Derived.Test.YtopdedhdfaomfaaG
namespace Go.Proofs.Ytopdedhdfaomfaa
open Go.RowKit Go.BigFrame
def powersA : Array Value := #[.int .i64 26, .int .i64 23, .int .i64 22, .int .i64 16, .int .i64 12, .int .i64 11, .int .i64 10, .int .i64 8, .int .i64 7, .int .i64 5, .int .i64 4, .int .i64 2, .int .i64 1, .int .i64 0]
/-- A block that begins with the bits L. -/
def BitsAt (w : World) (g : Nat) (L : List Bool) : Prop := ∃ cur, Blk w g 4 cur ∧ ∀ (j : Nat) u, (L.map Value.bool)[j]? = some u → cur[j]? = some u
theorem BitsAt.cell {w : World} {g : Nat} {L : List Bool} (h : BitsAt w g L) {j : Nat} (hj : j < L.length) : w.cell? ⟨g, j, none⟩ = some (.bool (L.getD j false)) := by
  obtain ⟨cur, hB, hc⟩ := h
  rw [hB.cell]
  apply hc
  rw [List.getElem?_map, List.getD_eq_getElem?_getD, List.getElem?_eq_getElem hj]
  rfl
theorem BitsAt.frozen {w : World} {g : Nat} {L : List Bool} (h : BitsAt w g L) (j : Nat) : w.frozen? ⟨g, j, none⟩ = false := by
  obtain ⟨cur, hB, hc⟩ := h
  exact hB.frozen j
theorem BitsAt.set {w : World} {g : Nat} {L : List Bool} (h : BitsAt w g L) {j : Nat} (hj : j < L.length) (b : Bool) : BitsAt (w.setCell ⟨g, j, none⟩ (.bool b)) g (L.set j b) := by
  have hcell := h.cell hj
  obtain ⟨cur, hB, hc⟩ := h
  rw [hB.cell] at hcell
  refine ⟨_, hB.set_ j (.bool b), ?_⟩
  intro k u hu
  by_cases hk : k = j
  · subst hk
    rw [List.getElem?_map, List.getElem?_set_self hj] at hu
    rw [Array.getElem?_setIfInBounds_self_of_lt (Array.getElem?_eq_some_iff.1 hcell).1]
    exact hu
  · rw [List.getElem?_map, List.getElem?_set_ne (by omega), ← List.getElem?_map] at hu
    rw [Array.getElem?_setIfInBounds_ne (by omega)]
    exact hc k u hu
theorem BitsAt.of {w : World} {base g n c : Nat} {L : List Bool} (h : Fresh w base 4 (some ⟨g, 0, none⟩) n c (L.map Value.bool)) : BitsAt w g L := by
  rcases h.2 with ⟨hv, h0⟩ | ⟨g', cap, cur, hv, hg, hh, hnc, hcm, hsz, htk⟩
  · cases hv
  · injection hv with h1 h2 h3
    injection h1 with h1
    injection h1 with h1 _
    subst h1
    refine ⟨cur, hh, fun j u hu => ?_⟩
    rw [← htk, List.getElem?_take] at hu
    split at hu
    · simpa using hu
    · cases hu
theorem BitsAt.keep {w w' : World} {S : Nat → Prop} {g : Nat} {L : List Bool} (h : BitsAt w g L) (hk : Keep S w w') (hs : ¬ S g) : BitsAt w' g L := by
  obtain ⟨cur, hB, hc⟩ := h
  exact ⟨cur, hB.keep hk hs, hc⟩
theorem powersA_get (m : Nat) (h : m < 14) : powersA[m]? = some (.int .i64 ((powers.getD m 0 : Nat) : Int)) := by
  match m, h with
  | 0, _ => rfl
  | 1, _ => rfl
  | 2, _ => rfl
  | 3, _ => rfl
  | 4, _ => rfl
  | 5, _ => rfl
  | 6, _ => rfl
  | 7, _ => rfl
  | 8, _ => rfl
  | 9, _ => rfl
  | 10, _ => rfl
  | 11, _ => rfl
  | 12, _ => rfl
  | 13, _ => rfl
theorem powers_le (m : Nat) : powers.getD m 0 ≤ 26 := by
  have hle : ∀ p ∈ powers, p ≤ 26 := by decide
  rw [List.getD_eq_getElem?_getD]
  cases h : powers[m]? with
  | none => simp
  | some p => exact hle p (List.mem_of_getElem? h)
def RestPost (w : World) (l : List Bool) (e : Ending) (w' : World) : Prop :=
  ∃ g c, e = .returned (.slice (some ⟨g, l.length - 32, none⟩) 32 c) ∧ w.heap.size ≤ g ∧ BitsAt w' g (divs (l.length - 32) l) ∧ Keep (fun _ => False) w w'
set_option maxRecDepth 100000 in
set_option maxHeartbeats 4000000 in
theorem rest_does (l : List Bool) (A : Option Addr) (c : Nat) (w : World) (hr : ReadsAs w A (l.map Value.bool)) (hl : 32 ≤ l.length) (hl2 : l.length ≤ 10000) : Calls Try.prog 30 #[.slice A l.length c] w (RestPost w l) := by
  obtain ⟨i0, hi, hz0, hz1, hz2⟩ := info_parts info_bool
  have HR : Hid (ReadsAs ((w.alloc (.cells powersA 3)).alloc (.cells #[] 4)) A (l.map Value.bool)) := hr.keep (((Keep.refl (fun _ => False) w).alloc _).alloc _) (fun _ _ _ h => h)
  have HL := Lib.hid (show (l.map Value.bool).length = l.length from List.length_map _)
  have HO : Hid (∀ u ∈ l.map Value.bool, u.oneCell' = true) := by
    intro u hu
    obtain ⟨x, _, rfl⟩ := List.mem_map.1 hu
    rfl
  have HN : Hid (A = none → l.length = 0 ∧ c = 0) := by
    rintro rfl
    exfalso
    obtain ⟨b, o, h, _⟩ := hr 0 (.bool (l[0]'(by omega))) (by rw [List.getElem?_map, List.getElem?_eq_getElem (by omega)]; rfl)
    cases h
  have HFm : Hid (Fresh ((w.alloc (.cells powersA 3)).alloc (.cells #[] 4)) w.heap.size 4 (some ⟨w.heap.size + 1, 0, none⟩) 0 0 []) := by
    have := Fresh.made (w.alloc (.cells powersA 3)) 4 (base := w.heap.size) (by simp)
    rwa [World.size_alloc] at this
  clear hr
  go_enter Try.func30, Try.ntmps30
  go_wp2_with (at_builtin; go_must (refine wpList_append_onto1 _ rfl _ _ _ rfl w.heap.size 4 i0 (.bool false) 1 Try.underlying55 hi hz0 hz1 hz2 rfl (some ⟨w.heap.size + 1, 0, none⟩) 0 0 [] rfl HFm.out A l.length c (l.map Value.bool) rfl HL.out HR.out HN.out HO.out (by omega) (by omega) (by simp; omega) ?_))
  intro A' c' w2 hF hK
  obtain ⟨g, rfl⟩ : ∃ g, A' = some ⟨g, 0, none⟩ := by
    rcases hF.2 with ⟨_, h0⟩ | ⟨g, cap, cur, hv, _⟩
    · omega
    · injection hv with hv _ _
      exact ⟨g, hv⟩
  have hg : w.heap.size ≤ g := (hF.block g 0 rfl).1
  have hcap : l.length ≤ c' := by
    rcases hF.2 with ⟨hv, _⟩ | ⟨g, cap, cur, hv, _, _, h, _⟩
    · cases hv
    · injection hv with _ _ h3
      omega
  have HBA : Hid (BitsAt w2 g l) := BitsAt.of hF
  have hPB : Blk w2 w.heap.size 3 powersA := ((Blk.new w 3 powersA).alloc _).keep hK (by simp)
  have hgne : g ≠ w.heap.size := by
    rintro rfl
    obtain ⟨cur, hB, _⟩ := (show BitsAt w2 _ l from HBA)
    exact (Blk.ne_ hB hPB (by decide)) rfl
  have HP := Lib.hid hPB
  have HK : Hid (Keep (fun _ => False) w w2) := (((Keep.refl (fun _ => False) w).alloc (.cells powersA 3)).alloc (.cells #[] 4)).trans hK (fun i hi h => by omega)
  clear hF hK hPB HR HL HO HN HFm
  go_wp2_with fail
  go_loopw [5] (fun x wr => ∃ (i : Nat), i + 32 ≤ l.length ∧ x = .int .i64 i ∧ BitsAt wr g (divs i l) ∧ Blk wr w.heap.size 3 powersA ∧ Keep (fun _ => False) w wr) (fun x _ => l.length - (intOf x).toNat)
  case atStart => exact ⟨0, by omega, rfl, HBA, HP, HK⟩
  case round =>
    clear HBA HP HK
    obtain ⟨i, hi32, rfl, hBA, hP, hK⟩ := hrel
    have HBA := Lib.hid hBA
    have HP := Lib.hid hP
    have HK := Lib.hid hK
    by_cases hlt : i + 32 < l.length
    · have hci := hBA.cell (j := i) (by rw [divs_length]; omega)
      have hfi := hBA.frozen i
      clear hBA hP hK
      cases hbit : (divs i l).getD i false
      · rw [hbit] at hci
        have hds : divs (i + 1) l = divs i l := by
          show divStep i (divs i l) = _
          unfold divStep
          rw [hbit]; rfl
        go_wp2_with fail
        refine ⟨⟨i + 1, by omega, by push_cast; rfl, ?_, HP, HK⟩, by simp [intOf]; omega⟩
        rw [hds]; exact HBA
      · rw [hbit] at hci
        have hds : divs (i + 1) l = togs i ((divs i l).set i false) powers := by
          show divStep i (divs i l) = _
          unfold divStep
          rw [hbit]; rfl
        have HDS := Lib.hid hds
        clear hds
        go_wp2_with fail
        go_loopw [6] (fun x wr => ∃ (m : Nat), m ≤ 14 ∧ x = .int .i64 m ∧ BitsAt wr g (togs i ((divs i l).set i false) (powers.take m)) ∧ Blk wr w.heap.size 3 powersA ∧ Keep (fun _ => False) w wr) (fun x _ => 14 - (intOf x).toNat)
        case atStart =>
          refine ⟨0, by omega, rfl, ?_, ?_, ?_⟩
          · exact BitsAt.set HBA (by rw [divs_length]; omega) false
          · exact Blk.far HP (by simpa using fun h => hgne h.symm) _
          · exact Keep.setCell HK (fun h => absurd h (by simp; omega)) _
        case round =>
          clear HBA HP HK hci hfi
          obtain ⟨m, hm, rfl, hBA, hP, hK⟩ := hrel
          have HBA := Lib.hid hBA
          have HP := Lib.hid hP
          have HK := Lib.hid hK
          by_cases hm14 : m < 14
          · have hpw := powers_le m
            have hcp : wr.cell? ⟨w.heap.size, m, none⟩ = some (.int .i64 ((powers.getD m 0 : Nat) : Int)) := by rw [Blk.cell hP, powersA_get m hm14]
            have hsn : powers.take (m + 1) = powers.take m ++ [powers.getD m 0] := by
              rw [List.take_succ_eq_append_getElem (show m < powers.length from hm14), List.getD_eq_getElem?_getD, List.getElem?_eq_getElem (show m < powers.length from hm14)]
              rfl
            have hnx := togs_snoc i ((divs i l).set i false) (powers.take m) (powers.getD m 0)
            rw [← hsn] at hnx
            generalize powers.getD m 0 = pw at hpw hcp hnx
            have hlen : i + 32 - pw < (togs i ((divs i l).set i false) (powers.take m)).length := by rw [togs_length, List.length_set, divs_length]; omega
            have hca := hBA.cell hlen
            have hfa := hBA.frozen (i + 32 - pw)
            have HLEN := Lib.hid hlen
            have HNX := Lib.hid hnx
            clear hBA hP hK hsn hlen hnx
            generalize (togs i ((divs i l).set i false) (powers.take m)).getD (i + 32 - pw) false = bt at *
            obtain ⟨at_, hat⟩ : ∃ a, a = i + 32 - pw := ⟨_, rfl⟩
            rw [← hat] at hca hfa
            have hat2 : (i : Int) + 32 - pw = at_ := by omega
            have HAT := Lib.hid hat
            have hatl : at_ < l.length := by omega
            clear hat
            go_wp2_with fail
            have hat : at_ = i + 32 - pw := HAT
            refine ⟨⟨m + 1, by omega, by push_cast; rfl, ?_, ?_, ?_⟩, by simp [intOf]; omega⟩
            · rw [show togs i ((divs i l).set i false) (powers.take (m + 1)) = _ from HNX, ← hat]
              exact BitsAt.set HBA (by rw [hat]; exact HLEN) _
            · exact Blk.far HP (by simpa using fun h => hgne h.symm) _
            · exact Keep.setCell HK (fun h => absurd h (by simp; omega)) _
          · have : m = 14 := by omega
            subst this
            clear hBA hP hK
            go_wp2_with fail
            refine ⟨⟨i + 1, by omega, by push_cast; rfl, ?_, HP, HK⟩, by simp [intOf]; omega⟩
            rw [show divs (i + 1) l = _ from HDS]
            exact HBA
    · have : i = l.length - 32 := by omega
      subst this
      clear hBA hP hK
      have hlc : l.length - 32 < c' := by omega
      have h32 : l.length - (l.length - 32) = 32 := by omega
      go_wp2_with fail
      refine bodyPost_ret (v := .slice (some ⟨g, l.length - 32, none⟩) 32 (c' - (l.length - 32))) (by simp [results, Try.results30, go_sem, h32]) rfl ⟨g, _, rfl, hg, HBA, HK⟩
end Go.Proofs.Ytopdedhdfaomfaa
