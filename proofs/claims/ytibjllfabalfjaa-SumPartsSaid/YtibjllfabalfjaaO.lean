/- Arguments opened: bytes, pairs of numbers. -/
import Derived.Test.YtibjllfabalfjaaX
import Derived.ProofKit
import Derived.ChangeSlices
import Derived.WideKeyArr2
namespace Go.Proofs.Ytibjllfabalfjaa
open Go.ChangeShapes Go.WideShapes Go.RowKit
theorem open_bytes {H : Type} {enc : TypeId × Value → H} {W : World} {fuel : Nat} {A : Option Addr} {len cap : Nat} {x : DataW H × List MemPlace}
    (h : DataW.trod enc Try.prog W 0 (fun _ => true) true fuel 22 [.slice A len cap] = some x) : ∃ b : List Nat, b.length = len ∧ BytesAt W A b ∧ (A = none → b.length = 0 ∧ cap = 0) := by
  rcases Go.ChangeShapes.open_ints Try.underlying22 Try.underlying5 (by kernel_rfl) h with ⟨hcs, hx⟩ | ⟨a, len', cap', zs, hcs, _, hlc, _, hlen, hx, hcell, hwf⟩
  · simp at hcs
    obtain ⟨rfl, rfl, rfl⟩ := hcs
    exact ⟨[], rfl, bytes_nil W, fun _ => ⟨rfl, rfl⟩⟩
  · simp at hcs
    obtain ⟨rfl, rfl, rfl⟩ := hcs
    simp only [if_true] at hlen
    have hb : ∀ i, i < zs.length → 0 ≤ zs.getD i 0 ∧ zs.getD i 0 < 256 := by
      intro i hi
      have := hwf (zs.getD i 0) (by rw [List.getD_eq_getElem?_getD, List.getElem?_eq_getElem hi]; exact List.getElem_mem hi)
      simp [Lit.wf, IntKind.min, IntKind.max, IntKind.bits, IntKind.signed] at this
      rw [List.getD_eq_getElem?_getD]
      omega
    refine ⟨(zs.take len).map Int.toNat, by simp; omega, ⟨?_, ?_⟩, fun h => by cases h⟩
    · intro i u hu
      have hi : i < len := by
        have := (List.getElem?_eq_some_iff.1 hu).1
        simp at this
        omega
      have h1 := hcell i (by omega)
      have h2 := hb i (by omega)
      have hsp : a.spot = none := by
        have h0 := hcell 0 (by omega)
        have e : a.add 0 = a := by simp [Addr.add]
        rw [e] at h0
        exact World.cell?_spot h0
      have ha : a = ⟨a.block, a.off, none⟩ := by cases a; simp at hsp; subst hsp; rfl
      have hadd : a.add i = ⟨a.block, a.off + i, none⟩ := by
        rw [ha, add_off]
      rw [hadd] at h1
      refine ⟨a.block, a.off, by rw [← ha], ?_⟩
      rw [h1]
      have hz : zs[i]? = some (zs.getD i 0) := by
        rw [List.getD_eq_getElem?_getD, List.getElem?_eq_getElem (by omega)]; rfl
      simp only [List.getElem?_map, List.getElem?_take, hi, if_true, hz, Option.map_some] at hu
      injection hu with hu
      rw [← hu]
      have e : zs.getD i 0 = ((zs.getD i 0).toNat : Int) := by omega
      show some (Value.int .u8 _) = some (Value.int .u8 ((zs.getD i 0).toNat : Int))
      rw [← e]
    · intro x hx
      obtain ⟨z, hz, rfl⟩ := List.mem_map.1 hx
      obtain ⟨i, hi⟩ := List.getElem?_of_mem (List.mem_of_mem_take hz)
      have hil := (List.getElem?_eq_some_iff.1 hi).1
      have := hb i hil
      rw [List.getD_eq_getElem?_getD, hi] at this
      simp at this
      omega
theorem u32_form {x : Int} (h : (Lit.int .u32 x).wf = true) : Value.int .u32 x = uv (BitVec.ofNat 32 x.toNat) := by
  simp [Lit.wf, IntKind.min, IntKind.max, IntKind.bits, IntKind.signed] at h
  show _ = Value.int .u32 _
  rw [iv_ofNat _ (by omega)]
  congr 1
  omega
theorem open_two {H : Type} {enc : TypeId × Value → H} {W : World} {base : Nat} {v : Value} {d : DataW H} {ps : List MemPlace} (hv : Value.okWide Try.prog W .any base 36 v)
    (h : DataW.Trod enc Try.prog W 0 (fun _ => true) true 36 v d ps) : ∃ p q : Int, v = .agg #[.int .i64 p, .int .i64 q] := by
  have hu : Try.prog.underlying 36 = some (.array 2 3) := rfl
  have hC : Try.prog.cellsOf 36 = 2 := by kernel_rfl
  have hC3 : Try.prog.cellsOf 3 = 1 := by kernel_rfl
  obtain ⟨cs, rfl, hsz⟩ : ∃ cs, v = .agg cs ∧ cs.size = 2 := by
    unfold Value.okWide at hv
    rw [hu] at hv
    obtain ⟨cs, h1, h2, _⟩ := hv
    exact ⟨cs, h1, by rw [h2, hC]⟩
  rcases cs with ⟨l⟩
  · simp at hsz
    match l, hsz with
    | [c0, c1], _ =>
      obtain ⟨fuel, hf⟩ := h
      obtain ⟨xs, m, _, _, _, hl, hi⟩ := DataW.trod_array hu hf
      have h0 := hi 0 (by omega)
      have h1 := hi 1 (by omega)
      rw [hC3] at h0 h1
      rw [List.getElem?_eq_getElem (by omega)] at h0 h1
      obtain ⟨p, e0, _, _⟩ := DataW.trod_int Try.underlying3 h0
      obtain ⟨q, e1, _, _⟩ := DataW.trod_int Try.underlying3 h1
      have e0 : c0 = .int .i64 p := by simpa [Value.cells] using e0
      have e1 : c1 = .int .i64 q := by simpa [Value.cells] using e1
      exact ⟨p, q, by rw [e0, e1]⟩
theorem open_u32 {H : Type} {enc : TypeId × Value → H} {W : World} {base : Nat} {v : Value} {d : DataW H} {ps : List MemPlace} (hv : Value.okWide Try.prog W .any base 24 v)
    (h : DataW.Trod enc Try.prog W 0 (fun _ => true) true 24 v d ps) : ∃ s : BitVec 32, v = uv s := by
  obtain ⟨x, rfl, e0, e0', wx⟩ := open_int Try.underlying24 hv h
  exact ⟨_, u32_form wx⟩
end Go.Proofs.Ytibjllfabalfjaa
