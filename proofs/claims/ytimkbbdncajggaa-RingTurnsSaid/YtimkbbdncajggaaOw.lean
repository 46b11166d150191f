/- A script as it comes in, with how long its strings may be. -/
import Derived.Test.YtimkbbdncajggaaFw
import Derived.SizedLaws
namespace Go.Proofs.Ytimkbbdncajggaa
open Go.ChangeShapes Go.WideShapes Go.ChangeAt Go.RowKit Go.BigFrame
theorem mem_weightsAll {H : Type} {P : Program} {e : TypeId} {d : DataW H} {n : Nat} : ∀ {el : List (DataW H)}, d ∈ el → n ∈ d.weights P e → n ∈ DataW.weightsAll P e el
  | [], hd, _ => by cases hd
  | y :: r, hd, hn => by
    rw [DataW.weightsAll]
    rcases List.mem_cons.1 hd with rfl | hd
    · exact List.mem_append_left _ hn
    · exact List.mem_append_right _ (mem_weightsAll hd hn)
theorem sized_ops {H : Type} {ts : List TypeId} {ds : List (DataW H)} (h : (DataW.weightsEach Try.prog ts ds).all (· ≤ reachBytes) = true) {j : Nat} {el sp : List (DataW H)} (ht : ts[j]? = some 40) (hd : ds[j]? = some (.slice el sp)) {i : Nat} {d0 : DataW H} {bs : List UInt8}
    (hi : el[i]? = some (.agg [d0, .lit (.string bs)])) : bs.length ≤ reachBytes := by
  obtain ⟨f0, f1, hu, t0, t1, _, _⟩ := fields46
  have h1 : bs.length ∈ (DataW.agg [d0, .lit (.string bs)] : DataW H).weights Try.prog 46 := by
    rw [DataW.weights, hu]
    simp [DataW.weightsEach, DataW.weights]
  have h2 := mem_weightsAll (List.mem_of_getElem? hi) h1
  have h3 := DataW.weights_mem_each ht hd bs.length (by rw [DataW.weights, Try.underlying40]; exact List.mem_cons_of_mem _ (List.mem_append_left _ h2))
  simpa using List.all_eq_true.1 h _ h3
/-- What the reading of a script gives. -/
theorem open_sized {H : Type} {enc : TypeId × Value → H} {W : World} {fuel : Nat} {a1 : Option Addr} {len cap : Nat} {x : DataW H × List MemPlace}
    (h : DataW.trod enc Try.prog W 0 (fun _ => true) true fuel 40 [.slice a1 len cap] = some x) :
    ∃ l : List Op, l.length = len ∧ OpsAt W a1 l ∧ (len = 0 ∨ ∃ el sp, x.1 = .slice el sp ∧ el.length = len ∧ ∀ (i : Nat) (o : Op), l[i]? = some o → ∃ d0, el[i]? = some (.agg [d0, .lit (.string o.s.data.toList)])) := by
  rcases Deep.open_slice Try.underlying40 h with ⟨hcs, hx⟩ | ⟨a, len', cap', m, n, D, Pl, hcs, _, hl, hm, hmm, hx, hi⟩
  · simp at hcs
    obtain ⟨rfl, rfl, rfl⟩ := hcs
    exact ⟨[], rfl, fun i y hy => by simp at hy, .inl rfl⟩
  · simp at hcs
    obtain ⟨rfl, rfl, rfl⟩ := hcs
    simp only [if_true] at hmm
    subst hmm
    rw [Try.cells46] at hi
    obtain ⟨f0, f1, hu, t0, t1, o0, o1⟩ := fields46
    have hspot : 0 < len → a.spot = none := by
      intro hp
      obtain ⟨cs', hc, _⟩ := hi 0 (by omega)
      obtain ⟨_, hcl, hat⟩ := World.cells?_some hc
      have h0 := hat 0 (by omega)
      rw [Nat.zero_mul] at h0
      have e : (a.add 0).add 0 = a := by simp [Addr.add]
      rw [e, List.getElem?_eq_getElem (by omega)] at h0
      exact World.cell?_spot h0
    obtain ⟨l, hll, hP⟩ := list_of_each (P := fun i (x : Op) => a.block < W.heap.size ∧ W.cell? (a.add (i * 2)) = some (.int .i64 x.kind) ∧ W.cell? (a.add (i * 2 + 1)) = some (.string x.s) ∧ x.s.size ≤ maxLen ∧ ∃ d0, D i = .agg [d0, .lit (.string x.s.data.toList)]) len (by
      intro i hil
      obtain ⟨cs', hc, ht⟩ := hi i (by omega)
      obtain ⟨_, hcl, hat⟩ := World.cells?_some hc
      obtain ⟨ys, n', _, hxy, hlen, hyl, hf⟩ := DataW.trod_struct hu ht
      have g0 := hf 0 f0 rfl
      have g1 := hf 1 f1 rfl
      rw [t0, o0, Try.cells3] at g0
      rw [t1, o1, Try.cells9] at g1
      have hys : ys.length = 2 := by rw [hyl]; rfl
      obtain ⟨y0, y1, rfl⟩ : ∃ y0 y1, ys = [y0, y1] := by
        match ys, hys with
        | [y0, y1], _ => exact ⟨y0, y1, rfl⟩
      obtain ⟨q0, e0, _, _⟩ := DataW.trod_int Try.underlying3 (g0.trans (show [y0, y1][0]? = some y0 from rfl))
      obtain ⟨q1, e1, hy1, hs1⟩ := DataW.trod_string Try.underlying9 (g1.trans (show [y0, y1][1]? = some y1 from rfl))
      have c0 := (hat 0 (by omega)).trans (take_drop1 e0)
      have c1 := (hat 1 (by omega)).trans (take_drop1 e1)
      rw [Deep.add_add] at c0 c1
      refine ⟨⟨q0, q1⟩, ?_, c0, c1, hs1, y0.1, by have := congrArg Prod.fst hxy; simpa [hy1] using this⟩
      have hb := World.block_lt_of_cell? W _ c0
      have eb : (a.add (i * 2 + 0)).block = a.block := by unfold Addr.add; split <;> rfl
      rw [eb] at hb
      exact hb)
    refine ⟨l, hll, ?_, .inr ⟨_, _, by rw [hx], by simp, fun i o ho => ?_⟩⟩
    · intro i y hy
      obtain ⟨hb, c0, c1, hs, _⟩ := hP i y hy
      have hil : i < len := by rw [← hll]; exact (List.getElem?_eq_some_iff.1 hy).1
      obtain ⟨b, o, spot⟩ := a
      have hs0 := hspot (by omega)
      dsimp only at hs0
      subst hs0
      rw [add_off] at c0 c1
      exact ⟨b, o, rfl, hb, c0, by rw [Nat.add_assoc]; exact c1, hs⟩
    · have hil : i < len := by rw [← hll]; exact (List.getElem?_eq_some_iff.1 ho).1
      obtain ⟨_, _, _, _, d0, hd⟩ := hP i o ho
      exact ⟨d0, by rw [List.getElem?_map, List.getElem?_range hil]; simp [hd]⟩
end Go.Proofs.Ytimkbbdncajggaa
