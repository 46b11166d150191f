/- UndoGroups: of what was done in one group, one Undo goes back to the state ahead of it: for every input the law returns true. No condition. -/
import Derived.Test.YtbaggkokoablbaaRows
import Derived.Test.YtbaggkokoablbaaG
import Derived.ProofKit
import Derived.SliceStrings
namespace Go.Proofs.Ytbaggkokoablbaa
open Go.ChangeShapes Go.WideShapes Go.ChangeAt Go.RowKit
open Go.WideMaps Go.WideElems
open Go.ChangeMaps (setBlock shut_map_nil open_string shut_string keptBut_setBlock frozen?_setBlock heap_setBlock_same)

theorem Try.own : ownKnob Try.prog.godebug = none := by kernel_rfl
theorem Try.laidOut : laidOutB Try.prog = true := by kernel_rfl
theorem Try.cells9 : Try.prog.cellsOf 9 = 1 := by kernel_rfl
theorem Try.bytes9 : Try.prog.bytesOf 9 = 16 := by kernel_rfl

set_option maxRecDepth 100000 in
theorem groups_lifted (os : Os) (started : os.Started) (H : Type) (enc : TypeId × Value → H) :
    ReturnsInHanded {} Try.checked os 3 .any (Rows.undoGroupsSpec.pre6 enc Try.prog Try.f3 Rows.undoGroupsRow.domain false) (Rows.undoGroupsSpec.post enc Try.prog Try.f3 false true false false) := by
  refine returnsInHanded_of_change_sized (C := Try.checked) Try.own started (by kernel_rfl) Try.func3
    (ChangeSpec.witness6 (enc := enc) (C := Try.checked) false ⟨#[], #[.string ⟨#[]⟩, .slice none 0 0, .int .i64 0], []⟩ 8 (by kernel_rfl) (by kernel_rfl) (by kernel_rfl) (by kernel_rfl)) ?_
  intro W base args ds gs before hval0 hW _ hsz0 _
  have hsz : (DataW.weightsEach Try.prog (Try.f3.params.toList ++ Rows.undoGroupsSpec.plain.varTypes Try.prog) (ds ++ gs)).all (· ≤ reachBytes) = true := hsz0
  clear hsz0
  have hval : ∀ (j : Nat) t v, Try.f3.params[j]? = some t → args[j]? = some v → Value.okWide Try.prog W .any base t v := hval0
  have hW' := hW
  obtain ⟨p, q, hA0, hV, rfl, _, _⟩ := hW
  have hA : DataW.TrodAll enc Try.prog W 0 (fun _ => true) true Try.f3.params.toList args.toList ds p := hA0
  rw [Try.params3] at hA hval hsz
  obtain ⟨v0, v1, v2, d0, d1, d2, p0, p1, p2, rfl, rfl, rfl, h0, h1, h2⟩ := trodAll_three hA
  obtain ⟨rfl, rfl⟩ := trodVars_none hV
  clear hA0 hval0
  have hlt : ∀ x ∈ p0 ++ (p1 ++ p2), x.block < W.heap.size := fun x hx => by simpa using hW'.lt x (by simpa using hx)
  obtain ⟨a1, len, cap, rfl⟩ := okWide_slice Try.underlying22 (hval 1 22 v1 rfl rfl)
  obtain ⟨fuel, hf⟩ := id h1
  have hk0 := h0
  have hk2 := h2
  obtain ⟨s, rfl, e0, e0', hs⟩ := open_string Try.underlying9 (hval 0 9 v0 rfl rfl) h0
  obtain ⟨g, rfl, e2, e2', wg⟩ := open_int Try.underlying3 (hval 2 3 v2 rfl rfl) h2
  have fin : ∀ (ss : List ByteArray) (e : Ending) (W' : World), e = .returned (.bool true) → Keep (fun _ => False) W W' →
      ∃ v, e = Ending.returned v ∧ Rows.undoGroupsSpec.post enc Try.checked.prog Try.f3 false true false false W #[.string s, .slice a1 len cap, .int .i64 g] v W' := by
    rintro ss e W' rfl hk
    have hb := hk.below
    refine ⟨_, rfl, ?_⟩
    refine ⟨_, _, _, [] ++ [], p0 ++ (p1 ++ p2), [], hW', ?_, ?_, rfl, hb.frame _, fun h => by cases h⟩
    · exact trodAll_mk1 (shut_bool Try.underlying4 true)
    · exact trodAll_mk3 (Below.trod Try.laidOut (by kernel_rfl) (of_decide_eq_true (by kernel_rfl)) hk0 hb (fun x hx => hlt x (by simp [hx])))
        (Below.trod Try.laidOut (by kernel_rfl) (of_decide_eq_true (by kernel_rfl)) h1 hb (fun x hx => hlt x (by simp [hx])))
        (Below.trod Try.laidOut (by kernel_rfl) (of_decide_eq_true (by kernel_rfl)) hk2 hb (fun x hx => hlt x (by simp [hx])))
  rcases open_strings Try.underlying22 Try.underlying9 Try.cells9 hf with ⟨hcs, hx⟩ | ⟨a, len', cap', ss, hcs, _, hl, hm, hz, hx, hcell, hws⟩
  · simp [Value.cells] at hcs
    obtain ⟨rfl, rfl, rfl⟩ := hcs
    exact (groups_any s none 0 [] g W (fun i x h => by simp at h) (by simp)).mono fun e W' ⟨he, hk⟩ => fin [] e W' he hk
  · simp [Value.cells] at hcs
    obtain ⟨rfl, rfl, rfl⟩ := hcs
    simp only [Prod.mk.injEq] at hx
    obtain ⟨hd1, _⟩ := hx
    simp only [if_true] at hz
    have hlen : (ss.take len).length = len := by rw [List.length_take]; omega
    have hreach : len * 16 ≤ 140737488351232 := by
      rw [hd1] at hsz
      have := sized_slice hsz (j := 1) (t := 22) (e := 9) rfl rfl Try.underlying22
      rw [Try.bytes9] at this
      simp only [strs, List.length_map, List.length_take, List.length_drop, reachBytes] at this
      omega
    have hst : StrsAt W (some a) (ss.take len) := by
      intro i x hi
      rw [List.getElem?_take] at hi
      split at hi
      · next hil =>
        have hc := hcell i (by omega)
        have hx : ss.getD i ByteArray.empty = x := by rw [List.getD_eq_getElem?_getD, hi]; rfl
        rw [hx] at hc
        obtain ⟨b, off, spot⟩ := a
        have h00 := hcell 0 (by omega)
        have hspot : spot = none := by simpa [Addr.add] using World.cell?_spot h00
        subst hspot
        exact ⟨b, off, rfl, by rw [← add_off]; exact hc⟩
      · cases hi
    have := groups_any s (some a) cap (ss.take len) g W hst (by rw [hlen]; exact hreach)
    rw [hlen] at this
    exact this.mono fun e W' ⟨he, hk⟩ => fin [] e W' he hk

theorem groups_holds : Rows.UndoGroupsSaid :=
  OpenClaim.holds_of_wide 3 Try.f3 rfl rfl rfl rfl rfl rfl rfl ⟨rfl, rfl, rfl, rfl, rfl⟩ rfl rfl rfl rfl rfl (by kernel_rfl) Try.func3 (by kernel_rfl)
    (of_decide_eq_true (by kernel_rfl)) (by unfold Func.isWrapper; first | (rw [if_pos (by decide +kernel)]; kernel_rfl) | (rw [if_neg (by decide +kernel)]; exact ⟨rfl, rfl⟩))
    (fun os started H enc _ => groups_lifted os started H enc)

#print axioms groups_holds
end Go.Proofs.Ytbaggkokoablbaa
