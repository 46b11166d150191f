/- 'append(x, make([]T, n)...)': the model's operation takes the number. -/
import Derived.Test.YtopdedhdfaomfaaH
namespace Go.Proofs.Ytopdedhdfaomfaa
open Go.RowKit Go.BigFrame
theorem zeroCells_one (z : Value) (m : Nat) : Builtin.zeroCells #[z] m = Array.replicate m z := by
  apply Array.ext
  · simp [Builtin.zeroCells]
  · intro i h1 h2
    simp [Builtin.zeroCells, Nat.mod_one]
theorem run_append_make {P : Program} (w : World) (base : Nat) (t ti ty e : TypeId) (i : TypeInfo) (z : Value) (ht : P.underlying t = some (.slice e)) (hti : P.underlying ti = some (.int .i64)) (hi : P.info? e = some i) (hz : i.zero = some z)
    (hsize : i.size = 1) (hby : i.bytes = 1) (hzs : z.cells = #[z]) (h1 : z.oneCell' = true)
    (A : Option Addr) (n c : Nat) (xs : List Value) (hown : Fresh w base e A n c xs) (m : Nat) (h63 : n + m ≤ 1000000) (hbase : base ≤ w.heap.size) :
    ∃ A' c' w', (Builtin.append_ #[t, ti] ty #[.slice A n c, .int .i64 m]).run P w = .ok (.slice A' (n + m) c') w' ∧ Fresh w' base e A' (n + m) c' (xs ++ List.replicate m z) ∧ Keep (fun k => ∃ o, A = some ⟨k, o, none⟩) w w' := by
  have hw : IntKind.i64.wrap (m : Int) = m := by
    simp [IntKind.wrap, IntKind.bits, IntKind.signed]
    omega
  have hm0 : ¬ ((m : Int) < 0) := by omega
  have hm48 : ¬ (281474976710656 < (m : Int)) := by omega
  have h63' : ¬ (9223372036854775807 < ((n : Int) + (m : Int))) := by omega
  have hlen : (xs ++ List.replicate m z).length = (n + m) * 1 := by rw [List.length_append, hown.1]; simp
  have grown : ∀ (old : Nat), old < n + m →
      Fresh (w.drew.alloc (.cells (xs.toArray ++ (List.replicate m z).toArray ++ Builtin.zeroCells z.cells (grownCap w (n + m) old e - (n + m))) e)) base e (some ⟨w.heap.size, 0, none⟩) (n + m) (grownCap w (n + m) old e) (xs ++ List.replicate m z) := by
    intro old ho
    have hge := grownCap_ge w (n + m) old e
    have hcm : grownCap w (n + m) old e ≤ maxLen := grownCap_le_maxLen w (n + m) old e (by unfold maxLen; omega)
    refine ⟨hlen, .inr ⟨w.heap.size, _, _, rfl, hbase, heap_alloc_new w.drew _, hge, hcm, ?_, ?_⟩⟩
    · have := hown.1
      simp only [Array.size_append, List.size_toArray, size_zeroCells, hzs, List.length_replicate]
      simp
      omega
    · simp only [Array.toList_append, List.append_assoc]
      rw [← List.append_assoc, ← hlen]
      exact List.take_left
  have hkg : ∀ (o : Obj), Keep (fun k => ∃ o, A = some ⟨k, o, none⟩) w (w.drew.alloc o) := fun o => ((Keep.refl _ w).drew).alloc o
  by_cases hm : m = 0
  · subst hm
    have hnc : n ≤ c := by
      rcases hown.2 with ⟨hv, h0⟩ | ⟨g, cap, cur, hv, hg, hh, hnc, hcm, hsz, htk⟩
      · omega
      · injection hv with _ _ hc
        omega
    refine ⟨A, c, w, ?_, by simpa using hown, Keep.refl _ w⟩
    cases A <;> simp [Builtin.append_, run_underlying ht, run_underlying hti, sizeOf, typeInfo, hi, asInt, asIntOf, show IntKind.i64.wrap 0 = 0 from rfl, hnc, storeCells]
  rcases hown.2 with ⟨hv, h0⟩ | ⟨g, cap, cur, hv, hg, hh, hnc, hcm, hsz, htk⟩
  · injection hv with hA hn hc
    subst hA hn hc
    have hx : xs = [] := List.eq_nil_of_length_eq_zero (by simpa using hown.1)
    subst hx
    have hgr := grown 0 (by omega)
    refine ⟨_, _, _, ?_, hgr, hkg _⟩
    have h48' : ¬ (281474976710656 < Builtin.nextslicecap m 0) := by rw [nextslicecap_zero (by omega)]; omega
    have h9 : ¬ (9223372036854775807 < (m : Int)) := by omega
    simp [Builtin.append_, run_underlying ht, run_underlying hti, sizeOf, typeInfo, hi, asInt, asIntOf, hw, hm0, hm48, hm, hby, hsize, zeroValue, hz, Question.forced, run_firstCells_none, newRow, grownCap, h48', hzs, zeroCells_one, h9]
  · injection hv with hA hn hc
    subst hA hc
    by_cases hroom : n + m ≤ c
    · have hst := run_storeCells_at P g n e (List.replicate m z) 0 cur w hh (by simp; omega) (fun u hu => by rw [(List.mem_replicate.1 hu).2]; exact h1)
      simp only [Nat.add_zero] at hst
      refine ⟨some ⟨g, 0, none⟩, c, w.setRow g (cur.toList.take n ++ List.replicate m z ++ cur.toList.drop (n + (List.replicate m z).length)).toArray, ?_, ⟨hlen, .inr ⟨g, c, _, rfl, hg, setRow_heap w g cur _ e _ hh, hroom, hcm, ?_, ?_⟩⟩, (Keep.refl _ w).setRow (fun _ => ⟨0, rfl⟩) _⟩
      · simp [Builtin.append_, run_underlying ht, run_underlying hti, sizeOf, typeInfo, hi, asInt, asIntOf, hw, hm0, hm48, hm, hby, hsize, zeroValue, hz, hroom, hzs, zeroCells_one, Addr.add_lit]
        simp at hst
        rw [hst]
        simp
      · simp only [List.size_toArray, List.length_append, List.length_take, List.length_drop, Array.length_toList, List.length_replicate]
        omega
      · have e1 : (cur.toList.take n).length = n := by simp; omega
        have htk' : cur.toList.take n = xs := by simpa using htk
        rw [htk', ← hlen]
        simp only [List.append_assoc]
        rw [← List.append_assoc]
        exact List.take_left
    · have hgr := grown c (by omega)
      refine ⟨_, _, _, ?_, hgr, hkg _⟩
      have holds : ∀ j u, xs[j]? = some u → w.cell? ((⟨g, 0, none⟩ : Addr).add j) = some u := World.ownsRow.cells hown (g := g) rfl
      have hfo := run_firstCells_some (P := P) w.drew i.size n ⟨g, 0, none⟩ n c xs (by rw [hsize]; exact hown.1) (by simpa using holds)
      have hfit := growslice_fits (need := n + m) (old := c) (bytes := 1) (by omega) (by omega)
      have h48' : ¬ (281474976710656 < Builtin.nextslicecap (n + m) c) := by omega
      simp [Builtin.append_, run_underlying ht, run_underlying hti, sizeOf, typeInfo, hi, asInt, asIntOf, hw, hm0, hm48, hm, hby, hsize, zeroValue, hz, Question.forced, newRow, grownCap, h48', hzs, zeroCells_one, h63', hroom]
      rw [hsize] at hfo
      rw [hfo]
      simp
theorem wpList_append_make {P : Program} (w : World) {ops : Array Oper} {rest : List Oper} {o : Oper} {a : Act} {Q : Exit → Act → World → Prop} (hgd : Region.wanted o (yielded ops a.tmps) = true) (s x : Operand) (t ti : TypeId)
    (ho : o.op = .call { callee := .builtin .append, args := #[s, x], argTypes := #[t, ti] })
    (base : Nat) (e : TypeId) (i : TypeInfo) (z : Value) (ht : P.underlying t = some (.slice e)) (hti : P.underlying ti = some (.int .i64)) (hi : P.info? e = some i) (hz : i.zero = some z)
    (hsize : i.size = 1) (hby : i.bytes = 1) (hzs : z.cells = #[z]) (h1 : z.oneCell' = true)
    (A : Option Addr) (n c : Nat) (xs : List Value) (hs : a.eval s = .slice A n c) (hown : Fresh w base e A n c xs) (m : Nat) (hx : a.eval x = .int .i64 m) (h63 : n + m ≤ 1000000) (hbase : base ≤ w.heap.size)
    (h : ∀ A' c' w', Fresh w' base e A' (n + m) c' (xs ++ List.replicate m z) → Keep (fun k => ∃ o, A = some ⟨k, o, none⟩) w w' → wpList P ops Q rest (a.put o.dst (.slice A' (n + m) c')) w') : wpList P ops Q (o :: rest) a w := by
  refine wpList_want hgd fun K hK => ?_
  obtain ⟨A', c', w', hrun, h2, h3⟩ := run_append_make (P := P) w base t ti o.type e i z ht hti hi hz hsize hby hzs h1 A n c xs hown m h63 hbase
  unfold Oper.wp execOp
  simp only [ho, resolve, invoke, builtin, Sem.run_bind, Sem.run_pure, Result.andThen_ok, List.map_toArray, List.map_cons, List.map_nil, hs, hx, hrun]
  exact hK _ _ (h A' c' w' h2 h3)
/-- The last 32 bits, as a row. -/
theorem divs_tail (n : Nat) (L : List Bool) (hL : L.length = n + 32) : win ((divs n L).drop n) = restW L n := by
  apply BitVec.eq_of_getLsbD_eq
  intro k hk
  rw [win_bit _ _ hk, ← divs_win n L (by omega) k hk]
  rw [List.getD_eq_getElem?_getD, List.getElem?_drop, ← List.getD_eq_getElem?_getD]
theorem reads_tail {w : World} {g n : Nat} {L : List Bool} (h : BitsAt w g L) (_hn : n ≤ L.length) : ReadsAs w (some ⟨g, n, none⟩) ((L.drop n).map Value.bool) := by
  obtain ⟨cur, hB, hc⟩ := h
  intro i u hu
  refine ⟨g, n, rfl, ?_⟩
  rw [hB.cell]
  apply hc
  rw [List.getElem?_map] at hu ⊢
  rwa [List.getElem?_drop] at hu
end Go.Proofs.Ytopdedhdfaomfaa
