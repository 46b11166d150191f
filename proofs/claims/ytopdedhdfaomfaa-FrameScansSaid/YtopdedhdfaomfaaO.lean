/- Arguments opened: bytes, rows of bytes. -/
import Derived.Test.YtopdedhdfaomfaaC2
import Derived.ProofKit
import Derived.ChangeSlices
import Derived.Deep.Slices
import Derived.SizedLaws
namespace Go.Proofs.Ytopdedhdfaomfaa
open Go.ChangeShapes Go.WideShapes Go.RowKit
theorem open_bytes {H : Type} {enc : TypeId × Value → H} {W : World} {fuel : Nat} {A : Option Addr} {len cap : Nat} {x : DataW H × List MemPlace}
    (h : DataW.trod enc Try.prog W 0 (fun _ => true) true fuel 23 [.slice A len cap] = some x) : ∃ b : List Nat, b.length = len ∧ BytesAt W A b ∧ (A = none → b.length = 0 ∧ cap = 0) ∧ len ≤ cap ∧ cap ≤ 9223372036854775807 := by
  rcases Go.ChangeShapes.open_ints Try.underlying23 Try.underlying5 (by kernel_rfl) h with ⟨hcs, hx⟩ | ⟨a, len', cap', zs, hcs, _, hlc, hcm, hlen, hx, hcell, hwf⟩
  · simp at hcs
    obtain ⟨rfl, rfl, rfl⟩ := hcs
    exact ⟨[], rfl, bytes_nil W, fun _ => ⟨rfl, rfl⟩, by omega, by omega⟩
  · simp at hcs
    obtain ⟨rfl, rfl, rfl⟩ := hcs
    simp only [if_true] at hlen
    have hb : ∀ i, i < zs.length → 0 ≤ zs.getD i 0 ∧ zs.getD i 0 < 256 := by
      intro i hi
      have := hwf (zs.getD i 0) (by rw [List.getD_eq_getElem?_getD, List.getElem?_eq_getElem hi]; exact List.getElem_mem hi)
      simp [Lit.wf, IntKind.min, IntKind.max, IntKind.bits, IntKind.signed] at this
      rw [List.getD_eq_getElem?_getD]
      omega
    refine ⟨(zs.take len).map Int.toNat, by simp; omega, ⟨?_, ?_⟩, (fun h => by cases h), hlc, by unfold maxLen at hcm; exact hcm⟩
    · intro i u hu
      have hi : i < len := by
        have := (List.getElem?_eq_some_iff.1 hu).1
        simp at this
        omega
      have h1 := hcell i (by omega)
      have h2 := hb i (by omega)
      have hsp : a.spot = none := by
        have h0 := hcell 0 (by omega)
        have e : a.add 0 = a := by simp [Addr.add]
        rw [e] at h0
        exact World.cell?_spot h0
      have ha : a = ⟨a.block, a.off, none⟩ := by cases a; simp at hsp; subst hsp; rfl
      have hadd : a.add i = ⟨a.block, a.off + i, none⟩ := by
        rw [ha, add_off]
      rw [hadd] at h1
      refine ⟨a.block, a.off, by rw [← ha], ?_⟩
      rw [h1]
      have hz : zs[i]? = some (zs.getD i 0) := by
        rw [List.getD_eq_getElem?_getD, List.getElem?_eq_getElem (by omega)]; rfl
      simp only [List.getElem?_map, List.getElem?_take, hi, if_true, hz, Option.map_some] at hu
      injection hu with hu
      rw [← hu]
      have e : zs.getD i 0 = ((zs.getD i 0).toNat : Int) := by omega
      show some (Value.int .u8 _) = some (Value.int .u8 ((zs.getD i 0).toNat : Int))
      rw [← e]
    · intro x hx
      obtain ⟨z, hz, rfl⟩ := List.mem_map.1 hx
      obtain ⟨i, hi⟩ := List.getElem?_of_mem (List.mem_of_mem_take hz)
      have hil := (List.getElem?_eq_some_iff.1 hi).1
      have := hb i hil
      rw [List.getD_eq_getElem?_getD, hi] at this
      simp at this
      omega
theorem list_of_each {α : Type} {P : Nat → α → Prop} : ∀ n : Nat, (∀ i, i < n → ∃ x, P i x) → ∃ l : List α, l.length = n ∧ ∀ (i : Nat) (x : α), l[i]? = some x → P i x
  | 0, _ => ⟨[], rfl, fun i x h => by simp at h⟩
  | n + 1, h => by
    obtain ⟨l, hl, hp⟩ := list_of_each n (fun i hi => h i (by omega))
    obtain ⟨x, hx⟩ := h n (by omega)
    refine ⟨l ++ [x], by simp [hl], fun i y hy => ?_⟩
    by_cases hi : i < n
    · rw [List.getElem?_append_left (by omega)] at hy
      exact hp i y hy
    · rw [List.getElem?_append_right (by omega)] at hy
      have e : i = n := by
        have := (List.getElem?_eq_some_iff.1 hy).1
        simp at this
        omega
      subst e
      rw [hl, Nat.sub_self] at hy
      simp at hy
      subst hy
      exact hx
theorem weights_mem_all {H : Type} {P : Program} {e : TypeId} {d : DataW H} : ∀ {ds : List (DataW H)}, d ∈ ds → ∀ n ∈ d.weights P e, n ∈ DataW.weightsAll P e ds
  | [], h, _, _ => by cases h
  | d0 :: ds, h, n, hn => by
    simp only [DataW.weightsAll, List.mem_append]
    rcases List.mem_cons.1 h with rfl | h
    · exact Or.inl hn
    · exact Or.inr (weights_mem_all h n hn)
/-- The bytes of a row of rows within the form's reach. -/
theorem sized_row {H : Type} {P : Program} {ts : List TypeId} {ds : List (DataW H)} (h : (DataW.weightsEach P ts ds).all (· ≤ reachBytes) = true) {j : Nat} {t e e2 : TypeId} {elems spare el2 sp2 : List (DataW H)} (ht : ts[j]? = some t)
    (hd : ds[j]? = some (.slice elems spare)) (hu : P.underlying t = some (.slice e)) (hu2 : P.underlying e = some (.slice e2)) (hm : DataW.slice el2 sp2 ∈ elems) : (el2.length + sp2.length) * P.bytesOf e2 ≤ reachBytes := by
  have h1 : (el2.length + sp2.length) * P.bytesOf e2 ∈ (DataW.slice el2 sp2).weights P e := by simp [DataW.weights, hu2]
  have h2 : (el2.length + sp2.length) * P.bytesOf e2 ∈ (DataW.slice elems spare).weights P t := by
    simp only [DataW.weights, hu, List.mem_cons, List.mem_append]
    exact Or.inr (Or.inl (weights_mem_all hm _ h1))
  have := List.all_eq_true.1 h _ (DataW.weights_mem_each ht hd _ h2)
  simpa using this
theorem Try.bytes5 : Try.prog.bytesOf 5 = 1 := by kernel_rfl
theorem Try.bytes23 : Try.prog.bytesOf 23 = 24 := by kernel_rfl
theorem Try.cells23 : Try.prog.cellsOf 23 = 1 := by kernel_rfl
theorem open_rows {H : Type} {enc : TypeId × Value → H} {W : World} {fuel j : Nat} {A : Option Addr} {len cap : Nat} {x : DataW H × List MemPlace} {ts : List TypeId} {ds : List (DataW H)}
    (h : DataW.trod enc Try.prog W 0 (fun _ => true) true fuel 22 [.slice A len cap] = some x) (hsz : (DataW.weightsEach Try.prog ts ds).all (· ≤ reachBytes) = true) (ht : ts[j]? = some 22) (hd : ds[j]? = some x.1) :
    ∃ L : List (List Nat), L.length = len ∧ RowsAt W A L ∧ L.length * 24 ≤ 140737488351232 := by
  rcases Deep.open_slice1 Try.underlying22 Try.cells23 h with ⟨hcs, hx⟩ | ⟨a, len', cap', m, n, V, D, Pl, hcs, _, hl, hm, hmm, hx, hi⟩
  · simp at hcs
    obtain ⟨rfl, rfl, rfl⟩ := hcs
    exact ⟨[], rfl, fun i y hy => by simp at hy, by simp⟩
  · simp at hcs
    obtain ⟨rfl, rfl, rfl⟩ := hcs
    simp only [if_true] at hmm
    subst hmm
    subst hx
    have hlen : len * 24 ≤ 140737488351232 := by
      have := sized_slice hsz ht hd Try.underlying22
      rw [Try.bytes23] at this
      simp [reachBytes] at this
      omega
    obtain ⟨L, hLl, hP⟩ := list_of_each (P := fun i (b : List Nat) => ∃ A' c', W.cell? (a.add i) = some (.slice A' b.length c') ∧ BytesAt W A' b ∧ (A' = none → b.length = 0 ∧ c' = 0) ∧ b.length ≤ 140737488351232) len (by
      intro i hil
      obtain ⟨hc, ht2⟩ := hi i (by omega)
      rcases Deep.open_slice1 Try.underlying23 (show Try.prog.cellsOf 5 = 1 by kernel_rfl) ht2 with ⟨hcs2, hx2⟩ | ⟨a2, len2, cap2, m2, n2, V2, D2, Pl2, hcs2, _, hl2, hm2, hmm2, hx2, _⟩
      · simp at hcs2
        rw [hcs2] at hc
        exact ⟨[], none, 0, hc, bytes_nil W, fun _ => ⟨rfl, rfl⟩, by simp⟩
      · simp at hcs2
        rw [hcs2] at hc ht2
        obtain ⟨b, hbl, hb, hbn, _, _⟩ := open_bytes ht2
        simp only [Prod.mk.injEq] at hx2
        refine ⟨b, some a2, cap2, by rw [hbl]; exact hc, hb, hbn, ?_⟩
        have := sized_row hsz ht hd Try.underlying22 Try.underlying23 (el2 := (List.range len2).map D2) (sp2 := (List.range (m2 - len2)).map fun j => D2 (len2 + j)) (by
          rw [← hx2.1]
          exact List.mem_map.2 ⟨i, List.mem_range.2 hil, rfl⟩)
        rw [Try.bytes5] at this
        simp [reachBytes] at this
        omega)
    refine ⟨L, hLl, ?_, by rw [hLl]; exact hlen⟩
    intro i b hb
    obtain ⟨A', c', hc, hrest⟩ := hP i b hb
    obtain ⟨g, o, spot⟩ := a
    have hil : i < len := by rw [← hLl]; exact (List.getElem?_eq_some_iff.1 hb).1
    obtain ⟨hc0, _⟩ := hi 0 (by omega)
    have hs : spot = none := by
      have e : (⟨g, o, spot⟩ : Addr).add 0 = ⟨g, o, spot⟩ := by simp [Addr.add]
      rw [e] at hc0
      exact World.cell?_spot hc0
    subst hs
    rw [add_off] at hc
    exact ⟨g, o, A', c', rfl, hc, hrest⟩
end Go.Proofs.Ytopdedhdfaomfaa
