/- RingTurns: the row. -/
import Derived.Test.YtimkbbdncajggaaRows
import Derived.Test.YtimkbbdncajggaaTu
import Derived.Test.YtimkbbdncajggaaOw
import Derived.ProofKit

namespace Go.Proofs.Ytimkbbdncajggaa
open Go.ChangeShapes Go.WideShapes Go.ChangeAt Go.RowKit
open Go.WideMaps Go.WideElems
open Go.ChangeMaps (setBlock shut_map_nil open_string shut_string keptBut_setBlock frozen?_setBlock heap_setBlock_same)

theorem lawRingTurns.own : ownKnob Try.prog.godebug = none := by kernel_rfl
theorem lawRingTurns.laidOut : laidOutB Try.prog = true := by kernel_rfl

set_option maxRecDepth 100000 in
theorem lawRingTurns.lifted (os : Os) (started : os.Started) (H : Type) (enc : TypeId × Value → H) :
    ReturnsInHanded {} Try.checked os 6 .any (Rows.ringTurnsSpec.pre6 enc Try.prog Try.f6 Rows.ringTurnsRow.domain false) (Rows.ringTurnsSpec.post enc Try.prog Try.f6 false true false false) := by
  refine returnsInHanded_of_change_sized (C := Try.checked) lawRingTurns.own started (by kernel_rfl) Try.func6
    (ChangeSpec.witness6 (enc := enc) (C := Try.checked) false ⟨#[], #[.int .i64 0, .slice none 0 0], []⟩ 8 (by kernel_rfl) (by kernel_rfl) (by kernel_rfl) (by kernel_rfl)) ?_
  intro W base args ds gs before hval0 hW _ hsz0 _
  have hsz : (DataW.weightsEach Try.prog (Try.f6.params.toList ++ Rows.ringTurnsSpec.plain.varTypes Try.prog) (ds ++ gs)).all (· ≤ reachBytes) = true := hsz0
  clear hsz0
  have hval : ∀ (j : Nat) t v, Try.f6.params[j]? = some t → args[j]? = some v → Value.okWide Try.prog W .any base t v := hval0
  have hW' := hW
  obtain ⟨p, q, hA0, hV, rfl, _, _⟩ := hW
  have hA : DataW.TrodAll enc Try.prog W 0 (fun _ => true) true Try.f6.params.toList args.toList ds p := hA0
  rw [Try.params6] at hA hval hsz
  obtain ⟨v0, v1, d0, d1, p0, p1, rfl, rfl, rfl, h0, h1⟩ := trodAll_two hA
  obtain ⟨rfl, rfl⟩ := trodVars_none hV
  clear hA0 hval0
  have hlt : ∀ x ∈ p0 ++ (p1), x.block < W.heap.size := fun x hx => by simpa using hW'.lt x (by simpa using hx)
  have fin : ∀ (e : Ending) (W' : World), e = .returned (.bool true) → Below W.heap.size W W' →
      ∃ v, e = Ending.returned v ∧ Rows.ringTurnsSpec.post enc Try.checked.prog Try.f6 false true false false W #[v0, v1] v W' := by
    rintro e W' rfl hb
    refine ⟨_, rfl, ?_⟩
    refine ⟨_, _, _, [] ++ [], p0 ++ (p1), [], hW', ?_, ?_, rfl, hb.frame _, fun h => by cases h⟩
    · exact trodAll_mk1 (shut_bool (Try.underlying4) true)
    · exact trodAll_mk2 (Below.trod lawRingTurns.laidOut (by kernel_rfl) (of_decide_eq_true (by kernel_rfl)) h0 hb (fun x hx => hlt x (by simp [hx]))) (Below.trod lawRingTurns.laidOut (by kernel_rfl) (of_decide_eq_true (by kernel_rfl)) h1 hb (fun x hx => hlt x (by simp [hx])))
  obtain ⟨limit, rfl, _, _, _⟩ := open_int Try.underlying3 (hval 0 3 v0 rfl rfl) h0
  obtain ⟨A, len, c, rfl⟩ := okWide_slice Try.underlying40 (hval 1 40 v1 rfl rfl)
  obtain ⟨f1, hf1⟩ := id h1
  obtain ⟨l, hll, hops, hsl⟩ := open_sized hf1
  have hboth : l.length * 24 ≤ 140737488351232 ∧ ∀ o ∈ l, o.s.size ≤ bigM := by
    rcases hsl with hz | ⟨el, sp, hd1, hel, hw⟩
    · have hl0 : l = [] := List.eq_nil_of_length_eq_zero (by omega)
      subst hl0
      exact ⟨by simp, fun o ho => by cases ho⟩
    · dsimp only at hd1
      rw [hd1] at hsz
      constructor
      · have := sized_slice hsz (j := 1) (t := 40) (e := 46) rfl rfl Try.underlying40
        rw [Try.bytes46] at this
        simp only [reachBytes] at this
        omega
      · intro o ho
        obtain ⟨i, hi⟩ := List.getElem?_of_mem ho
        obtain ⟨d0, hd0⟩ := hw i o hi
        have := sized_ops hsz (j := 1) rfl rfl hd0
        have e : o.s.size = o.s.data.toList.length := by rw [Array.length_toList]; rfl
        simp only [reachBytes] at this
        unfold bigM
        omega
  subst hll
  exact (turns_any A c l limit W hops hboth.1 hboth.2).mono fun e W' ⟨he, hk⟩ => fin e W' he hk.below

theorem lawRingTurns.holds : Rows.RingTurnsSaid :=
  OpenClaim.holds_of_wide 6 Try.f6 rfl rfl rfl rfl rfl rfl rfl ⟨rfl, rfl, rfl, rfl, rfl⟩ rfl rfl rfl rfl rfl (by kernel_rfl) Try.func6 (by kernel_rfl)
    (of_decide_eq_true (by kernel_rfl)) (by unfold Func.isWrapper; first | (rw [if_pos (by decide +kernel)]; kernel_rfl) | (rw [if_neg (by decide +kernel)]; exact ⟨rfl, rfl⟩))
    (fun os started H enc _ => lawRingTurns.lifted os started H enc)

#print axioms lawRingTurns.holds
end Go.Proofs.Ytimkbbdncajggaa
