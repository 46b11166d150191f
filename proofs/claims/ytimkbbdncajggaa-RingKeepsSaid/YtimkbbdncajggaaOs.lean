/- Arguments opened: a list of strings. -/
import Derived.Test.YtimkbbdncajggaaKS
import Derived.ProofKit
import Derived.ChangeSlices
import Derived.SliceStrings
import Derived.WideKeyArr2
namespace Go.Proofs.Ytimkbbdncajggaa
open Go.ChangeShapes Go.WideShapes Go.RowKit
theorem open_strl {H : Type} {enc : TypeId × Value → H} {W : World} {fuel : Nat} {A : Option Addr} {len cap : Nat} {x : DataW H × List MemPlace}
    (h : DataW.trod enc Try.prog W 0 (fun _ => true) true fuel 31 [.slice A len cap] = some x) : ∃ l : List ByteArray, l.length = len ∧ ReadsAs W A (l.map vals) := by
  rcases open_strings Try.underlying31 Try.underlying9 (by kernel_rfl) h with ⟨hcs, hx⟩ | ⟨a, len', cap', zs, hcs, _, hlc, _, hlen, hx, hcell, hwf⟩
  · simp at hcs
    obtain ⟨rfl, rfl, rfl⟩ := hcs
    exact ⟨[], rfl, fun i u hu => by simp at hu⟩
  · simp at hcs
    obtain ⟨rfl, rfl, rfl⟩ := hcs
    simp only [if_true] at hlen
    refine ⟨zs.take len, by simp; omega, ?_⟩
    intro i u hu
    have hi : i < len := by
      have := (List.getElem?_eq_some_iff.1 hu).1
      simp at this
      omega
    have h1 := hcell i (by omega)
    have hsp : a.spot = none := by
      have h0 := hcell 0 (by omega)
      have e : a.add 0 = a := by simp [Addr.add]
      rw [e] at h0
      exact World.cell?_spot h0
    have ha : a = ⟨a.block, a.off, none⟩ := by cases a; simp at hsp; subst hsp; rfl
    have hadd : a.add i = ⟨a.block, a.off + i, none⟩ := by
      rw [ha, add_off]
    rw [hadd] at h1
    refine ⟨a.block, a.off, by rw [← ha], ?_⟩
    rw [h1]
    have hz : zs[i]? = some (zs.getD i ByteArray.empty) := by
      rw [List.getD_eq_getElem?_getD, List.getElem?_eq_getElem (by omega)]; rfl
    simp only [List.getElem?_map, List.getElem?_take, hi, if_true, hz, Option.map_some] at hu
    exact hu
end Go.Proofs.Ytimkbbdncajggaa
