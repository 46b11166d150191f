/- frame.Scan walked. -/
import Derived.Test.YtopdedhdfaomfaaEa
import Derived.Maps.AppendAt
import Derived.RegionTactic
import Derived.BigRegion
namespace Go.Proofs.Ytopdedhdfaomfaa
open Go.RowKit Go.BigFrame Go.Shelf
attribute [local go_sem] Oper.semAt_some
theorem info_slice : (Try.prog.info? 23).map (fun i => (i.zero, i.size, i.bytes)) = some (some (.slice none 0 0), 1, 24) := by kernel_rfl
abbrev rowV (x : Fr) : Value := .slice x.A x.p.length x.c
def ScanI (w : World) (b : List Nat) (xs : List Fr) (W : World) : Prop :=
  ∃ A' c', Blk W w.heap.size 22 #[.slice A' xs.length c'] ∧ Blk W (w.heap.size + 1) 3 #[.int .i64 (ends (xs.map (·.p)) : Nat)] ∧ Fresh W (w.heap.size + 5) 23 A' xs.length c' (xs.map rowV) ∧
    (∀ x ∈ xs, Fresh W w.heap.size 5 x.A x.p.length x.c (x.p.map bv) ∧ (∀ y ∈ x.p, y < 256) ∧ x.p.length ≤ 1000) ∧ Keep (fun _ => False) w W ∧ Came b (xs.map (·.p))
theorem row_ge {w : World} {base : Nat} {e : TypeId} {A : Option Addr} {n c k : Nat} {xs : List Value} (h : Fresh w base e A n c xs) (hk : (Value.slice A n c).ownBlock = some k) : base ≤ k := by
  rcases h.2 with ⟨hv, h0⟩ | ⟨g, cap, cur, hv, hg, hr⟩
  · rw [hv] at hk; cases hk
  · rw [hv] at hk
    have : g = k := by simpa [Value.ownBlock] using hk
    omega
theorem Blk.set1 {w : World} {g : Nat} {t : TypeId} {x : Value} (h : Blk w g t #[x]) (v : Value) : Blk (w.setCell ⟨g, 0, none⟩ v) g t #[v] := h.set_ 0 v
theorem Fresh.keep_row {w w' : World} {base base2 : Nat} {e e2 : TypeId} {A A2 : Option Addr} {n c n2 c2 : Nat} {xs xs2 : List Value} (h : Fresh w base e A n c xs) (h2 : Fresh w base2 e2 A2 n2 c2 xs2) (hne : e ≠ e2)
    (hk : Keep (fun k => (Value.slice A2 n2 c2).ownBlock = some k) w w') : Fresh w' base e A n c xs := by
  refine ⟨h.1, ?_⟩
  rcases h.2 with h0 | ⟨g, cap, cur, hv, hg, hh, hr⟩
  · exact .inl h0
  · refine .inr ⟨g, cap, cur, hv, hg, Blk.keep (show Blk w g e cur from hh) hk ?_, hr⟩
    intro ho
    rcases h2.2 with ⟨hv2, _⟩ | ⟨g2, cap2, cur2, hv2, hg2, hh2, _⟩
    · rw [hv2] at ho; cases ho
    · rw [hv2] at ho
      have : g2 = g := by simpa [Value.ownBlock] using ho
      subst this
      exact Blk.ne_ (show Blk w g2 e cur from hh) hh2 hne rfl
theorem Fresh.far {w : World} {base g : Nat} {e t : TypeId} {A : Option Addr} {n c : Nat} {xs : List Value} {cs : Array Value} (h : Fresh w base e A n c xs) (hb : Blk w g t cs) (hne : e ≠ t) (o : Nat) (v : Value) : Fresh (w.setCell ⟨g, o, none⟩ v) base e A n c xs := by
  refine ⟨h.1, ?_⟩
  rcases h.2 with h0 | ⟨g2, cap, cur, hv, hg, hh, hr⟩
  · exact .inl h0
  · exact .inr ⟨g2, cap, cur, hv, hg, Blk.far (show Blk w g2 e cur from hh) (Blk.ne_ hh hb hne) v, hr⟩
theorem ScanI.turns {w : World} {b : List Nat} (xs : List Fr) (A B : World) (B0 : Nat) (hB : w.heap.size ≤ B0) (h : ScanI w b xs A) (ht : Turns B0 A B) : ScanI w b xs B := by
  obtain ⟨A', c', h1, h2, h3, h4, h5, h6⟩ := h
  exact ⟨A', c', Turns.blk ht h1, Turns.blk ht h2, Turns.fresh ht h3, fun x hx => ⟨Turns.fresh ht (h4 x hx).1, (h4 x hx).2⟩, Turns.keep ht h5 hB, h6⟩
def ScanPost (w : World) (b : List Nat) (e : Ending) (w' : World) : Prop :=
  ∃ A c, e = .returned (.tuple #[.slice A (scans b).length c, .int .i64 (ends (scans b) : Nat)]) ∧ RowsAt w' A (scans b) ∧ Keep (fun _ => False) w w'
set_option maxRecDepth 100000 in
set_option maxHeartbeats 4000000 in
theorem scan_does (A : Option Addr) (c : Nat) (b : List Nat) (w : World) (hb : BytesAt w A b) (hc : b.length ≤ c) (hcm : c ≤ 9223372036854775807)
    (hl : b.length ≤ 100000) : Calls Try.prog 11 #[.slice A b.length c] w (ScanPost w b) := by
  have HB := Lib.hid hb
  have HA : Hid (∀ g o, A = some ⟨g, o, none⟩ → b.length ≠ 0 → g < w.heap.size) := by
    intro g o h h0
    obtain ⟨g', o', e, hlt⟩ := hb.place h0
    rw [h] at e
    cases e
    exact hlt
  clear hb
  refine (callsIn_wide (n := 1)).1 (callsIn_of_wp_marks Try.func11 rfl trivial ?_ rfl)
  simp only [Try.ntmps11, List.size_toArray, List.length_cons, List.length_nil, Nat.reduceAdd, Nat.reduceSub, Array.replicate_succ, Array.replicate_zero, List.push_toArray, List.append_toArray, List.nil_append, List.cons_append]
  refine wpIn_wide.2 ?_
  go_wp2_with fail
  refine (each_does A b.length c _).mono ?_
  rintro e w2 ⟨rfl, rfl⟩
  go_wp2_with fail
  have b0 : Blk (((w.alloc (.cells #[.slice none 0 0] 22)).alloc (.cells #[.int .i64 0] 3)).alloc (.cells #[.slice A b.length c] 23)) w.heap.size 22 #[.slice none 0 0] := ((Blk.new w 22 _).alloc _).alloc _
  have b1 : Blk (((w.alloc (.cells #[.slice none 0 0] 22)).alloc (.cells #[.int .i64 0] 3)).alloc (.cells #[.slice A b.length c] 23)) (w.heap.size + 1) 3 #[.int .i64 0] := by
    have := (Blk.new (w.alloc (.cells #[.slice none 0 0] 22)) 3 #[.int .i64 0]).alloc (.cells #[.slice A b.length c] 23)
    rwa [World.size_alloc] at this
  have b2 : Blk (((w.alloc (.cells #[.slice none 0 0] 22)).alloc (.cells #[.int .i64 0] 3)).alloc (.cells #[.slice A b.length c] 23)) (w.heap.size + 1 + 1) 23 #[.slice A b.length c] := by
    have := Blk.new ((w.alloc (.cells #[.slice none 0 0] 22)).alloc (.cells #[.int .i64 0] 3)) 23 #[.slice A b.length c]
    rwa [World.size_alloc, World.size_alloc] at this
  have k0 : Keep (fun _ => False) w (((w.alloc (.cells #[.slice none 0 0] 22)).alloc (.cells #[.int .i64 0] 3)).alloc (.cells #[.slice A b.length c] 23)) := (((Keep.refl _ w).alloc _).alloc _).alloc _
  have z0 : (((w.alloc (.cells #[.slice none 0 0] 22)).alloc (.cells #[.int .i64 0] 3)).alloc (.cells #[.slice A b.length c] 23)).heap.size = w.heap.size + 3 := by simp
  generalize ((w.alloc (.cells #[.slice none 0 0] 22)).alloc (.cells #[.int .i64 0] 3)).alloc (.cells #[.slice A b.length c] 23) = W0 at *
  refine wp_range (gf := 26) (lb := #[.pointer (some ⟨w.heap.size + 1 + 1, 0, none⟩)]) (T := fun k => k = w.heap.size ∨ k = w.heap.size + 1 ∨ w.heap.size + 4 < k) rfl (enters_of Try.func26 (by kernel_rfl) rfl)
    (each1_gives A c b W0 (w.heap.size + 1 + 1) w.heap.size _ (BytesAt.keep HB k0) hc hcm hl b2 (by omega) (fun g o h h0 => ⟨by have := HA.out g o h h0; omega, by have := HA.out g o h h0; omega⟩) (by omega)) (fun _ => rfl)
    (by omega) (by omega) (ScanI w b) (fun _ _ _ => False) (fun xs X Y h ht => ScanI.turns xs X Y _ (by omega) h ht) (fun _ _ _ _ h _ => h)
    (fun pre x X Y h ht => ⟨h.1, h.2.1, h.2.2.1, h.2.2.2.1, Turns.fresh ht h.2.2.2.2.1, h.2.2.2.2.2⟩)
    ⟨none, 0, b0, b1, World.ownsRow_nil _ _ _ _, (fun x hx => by cases hx), k0, came_nil b⟩
    (fun x => { tmps := #[.slice A b.length c, undef, .pointer (some ⟨w.heap.size, 0, none⟩), .pointer (some ⟨w.heap.size + 1, 0, none⟩), .int .i64 x.at_, .slice x.A x.p.length x.c, .slice A b.length c, .func (.func 26) #[] #[.pointer (some ⟨w.heap.size + 1 + 1, 0, none⟩)], .int .i64 x.at_, .slice x.A x.p.length x.c, undef, undef, undef, undef, undef, undef, undef, undef, undef, undef, undef], defers := [] }) ?assign ?body ?done ?stop
  case assign =>
    intro l x W K hK
    gi_wp2
    exact hK
  case stop =>
    rintro D c pre W _ _ h _
    exact h.elim
  case body =>
    rintro l pre x W ⟨A', c', h1, h2, h3, h4, h5, h6⟩ ⟨f1, f2, f3, f4, f5, f6⟩ hlt
    have hat : x.at_ ≤ 100000 := by have := f1.2; omega
    have hpl : x.p.length ≤ 1000 := by
      have := nextE_zero f3
      rw [f4, payload_length this.2.2.1]
      exact this.2.1
    have hend : ends (pre.map (·.p)) + (6 + x.p.length) = ends ((pre ++ [x]).map (·.p)) := by rw [List.map_append, ← ends_snoc]; rfl
    have hcm2 : Came b ((pre ++ [x]).map (·.p)) := by
      have := (Came.next f1 (by rw [← f2]; exact f3)).1
      rw [← f2, ← f4] at this
      rw [List.map_append]
      exact this
    have hln : pre.length ≤ 20000 := by
      have := ends_ge (pre.map (·.p))
      have := f1.2
      simp at *
      omega
    have c1 := h1.cell 0
    have c2 := h2.cell 0
    have fz1 := h1.frozen 0
    have fz2 := h2.frozen 0
    have H1 := Lib.hid h1
    have H2 := Lib.hid h2
    have H3 := Lib.hid h3
    have H4 := Lib.hid h4
    have H5 := Lib.hid h5
    have F5 := Lib.hid f5
    have F6 := Lib.hid f6
    have F2 := Lib.hid f2
    have HE := Lib.hid hend
    have HC2 := Lib.hid hcm2
    have HSZ := Lib.hid (show w.heap.size + 5 ≤ (W.alloc (.cells #[rowV x] 23)).heap.size by simp; omega)
    clear h1 h2 h3 h4 h5 h6 f1 f2 f3 f4 f5 f6 hend hcm2
    obtain ⟨i0, hi, hz0, hz1, hz2⟩ := info_parts info_slice
    gi_wp2_with (gi_at_builtin; refine wpListIn_append_own _ rfl _ _ 22 rfl (w.heap.size + 5) 23 i0 (.slice none 0 0) 1 24 Try.underlying22 hi hz0 hz1 hz2 rfl (by decide) _ _ _ rfl (Fresh.alloc H3 _) ⟨W.heap.size, 0, none⟩ 1 1 [rowV x] rfl rfl (cell_one_new _ _ _) (by simp [Value.oneCell']) (by unfold maxLen; omega) (by omega) HSZ.out ?_)
    intro v' w1 hown' hgrow _
    obtain ⟨g', cap', rfl⟩ := ownsRow_succ hown'
    have hF1 : Fresh w1 (w.heap.size + 5) 23 (some ⟨g', 0, none⟩) (pre.length + 1) cap' (pre.map rowV ++ [rowV x]) := hown'
    have hK1 : Keep (fun k => w.heap.size + 4 < k) W w1 := ((Keep.refl _ W).alloc _).grown hgrow (fun k hk _ => by have := row_ge H3.out hk; omega)
    have hKR : Keep (fun k => (Value.slice A' pre.length c').ownBlock = some k) W w1 := ((Keep.refl _ W).alloc _).grown hgrow (fun k hk _ => hk)
    have KR := Lib.hid hKR
    have K1 := Lib.hid hK1
    have F1 := Lib.hid hF1
    have B1 := Lib.hid (Blk.keep H1 hK1 (by omega))
    have B2 := Lib.hid (Blk.keep H2 hK1 (by omega))
    have d1 := B1.out.cell 0
    have d2 := B2.out.cell 0
    have dz1 := B1.out.frozen 0
    have dz2 := B2.out.frozen 0
    clear hKR hF1 hK1 hown' hgrow c1 c2 fz1 fz2 H1 H2
    gi_wp2_with fail
    have e1 : (x.at_ : Int) + 6 + x.p.length = (ends ((pre ++ [x]).map (·.p)) : Nat) := by
      rw [← HE.out, ← F2.out]
      push_cast
      omega
    have K2 : Keep (fun k => k = w.heap.size ∨ k = w.heap.size + 1 ∨ w.heap.size + 4 < k) W ((w1.setCell ⟨w.heap.size, 0, none⟩ (.slice (some ⟨g', 0, none⟩) (pre.length + 1) cap')).setCell ⟨w.heap.size + 1, 0, none⟩ (.int .i64 ((x.at_ : Int) + 6 + x.p.length))) :=
      ((Keep.mono K1 (fun _ _ h => .inr (.inr h))).setCell (fun _ => .inl rfl) _).setCell (fun _ => .inr (.inl rfl)) _
    have B1' := (Blk.set1 B1 (.slice (some ⟨g', 0, none⟩) (pre.length + 1) cap'))
    have B2' := (Blk.far B2 (p := ⟨w.heap.size, 0, none⟩) (by simp) (.slice (some ⟨g', 0, none⟩) (pre.length + 1) cap'))
    refine ⟨K2, some ⟨g', 0, none⟩, cap', ?_, ?_, ?_, ?_, Keep.trans H5 K2 (fun i hi h => by omega), HC2⟩
    · rw [List.length_append]
      exact B1'.far (by simp) _
    · rw [← e1]
      exact B2'.set1 _
    · rw [List.length_append, List.map_append]
      exact (Fresh.far (Fresh.far F1 B1 (by decide) 0 _) B2' (by decide) 0 _)
    · intro y hy
      rcases List.mem_append.1 hy with hy | hy
      · exact ⟨Fresh.far (Fresh.far (Fresh.keep_row (H4.out y hy).1 H3 (by decide) KR) B1 (by decide) 0 _) B2' (by decide) 0 _, (H4.out y hy).2⟩
      · simp at hy
        subst hy
        exact ⟨Fresh.far (Fresh.far (Fresh.keep_row F5 H3 (by decide) KR) B1 (by decide) 0 _) B2' (by decide) 0 _, F6, hpl⟩
  case done =>
    rintro D xs W hD hxs ⟨A', c', h1, h2, h3, h4, h5, h6⟩ hK
    have hsc := came_nil b
    have c1 := h1.cell 0
    have c2 := h2.cell 0
    have fz1 := h1.frozen 0
    have fz2 := h2.frozen 0
    have HX := Lib.hid hxs
    have hlen : (scans b).length = xs.length := by rw [← hxs]; simp
    have HLN := Lib.hid hlen
    have H1 := Lib.hid h1
    have H2 := Lib.hid h2
    have H3 := Lib.hid h3
    have H4 := Lib.hid h4
    have H5 := Lib.hid h5
    have HKD := Lib.hid hK
    rw [hxs] at c2
    clear h1 h2 h3 h4 h5 h6 hK hxs hlen hsc
    go_wp2_with fail
    go_region
    all_goals go_wp2_with fail
    have B1' := Blk.set1 H1 (.slice A' xs.length c')
    have B2' : Blk ((W.setCell ⟨w.heap.size, 0, none⟩ (.slice A' xs.length c')).setCell ⟨w.heap.size + 1, 0, none⟩ (.int .i64 (ends (scans b) : Nat))).drew (w.heap.size + 1) 3 #[.int .i64 (ends (scans b) : Nat)] := (Blk.set1 (Blk.far H2 (p := ⟨w.heap.size, 0, none⟩) (by simp) _) _).drew
    have B1'' : Blk ((W.setCell ⟨w.heap.size, 0, none⟩ (.slice A' xs.length c')).setCell ⟨w.heap.size + 1, 0, none⟩ (.int .i64 (ends (scans b) : Nat))).drew w.heap.size 22 #[.slice A' xs.length c'] := (B1'.far (by simp) _).drew
    have B2m : Blk (W.setCell ⟨w.heap.size, 0, none⟩ (.slice A' xs.length c')) (w.heap.size + 1) 3 #[.int .i64 (ends (xs.map (·.p)) : Nat)] := Blk.far H2 (by simp) _
    have hkeep : Keep (fun _ => False) w ((W.setCell ⟨w.heap.size, 0, none⟩ (.slice A' xs.length c')).setCell ⟨w.heap.size + 1, 0, none⟩ (.int .i64 (ends (scans b) : Nat))).drew :=
      ((Keep.setCell H5 (fun h => absurd h (by simp)) _).setCell (fun h => absurd h (by simp)) _).drew
    have hrow : Fresh ((W.setCell ⟨w.heap.size, 0, none⟩ (.slice A' xs.length c')).setCell ⟨w.heap.size + 1, 0, none⟩ (.int .i64 (ends (scans b) : Nat))).drew (w.heap.size + 5) 23 A' xs.length c' (xs.map rowV) :=
      (Fresh.far (Fresh.far H3 H1 (by decide) 0 _) B2m (by decide) 0 _).drew
    have hall : ∀ x ∈ xs, Fresh ((W.setCell ⟨w.heap.size, 0, none⟩ (.slice A' xs.length c')).setCell ⟨w.heap.size + 1, 0, none⟩ (.int .i64 (ends (scans b) : Nat))).drew w.heap.size 5 x.A x.p.length x.c (x.p.map bv) := fun x hx =>
      (Fresh.far (Fresh.far (H4.out x hx).1 H1 (by decide) 0 _) B2m (by decide) 0 _).drew
    have hKD : ((W.setCell ⟨w.heap.size, 0, none⟩ (.slice A' xs.length c')).setCell ⟨w.heap.size + 1, 0, none⟩ (.int .i64 (ends (scans b) : Nat))).drew.heap[D]? = some (.deferred (some [])) := by
      have e1 := Below.heap_setCell W ⟨w.heap.size, 0, none⟩ (.slice A' xs.length c') D (by simp; omega)
      have e2 := Below.heap_setCell (W.setCell ⟨w.heap.size, 0, none⟩ (.slice A' xs.length c')) ⟨w.heap.size + 1, 0, none⟩ (.int .i64 (ends (scans b) : Nat)) D (by simp; omega)
      exact (e2.trans e1).trans HKD
    generalize ((W.setCell ⟨w.heap.size, 0, none⟩ (.slice A' xs.length c')).setCell ⟨w.heap.size + 1, 0, none⟩ (.int .i64 (ends (scans b) : Nat))).drew = W1 at *
    have ht : Turns (w.heap.size + 3) W1 (W1.putObj D (.deferred none)) := Turns.put (by omega) hKD rfl
    refine ⟨by simp, .inl ⟨_, _, rfl, run_takeDeferred hKD, ?_⟩⟩
    have q1 := (Turns.blk ht B1'').cell 0
    have q2 := (Turns.blk ht B2').cell 0
    have q1' : (W1.putObj D (.deferred none)).cell? ⟨w.heap.size, 0, none⟩ = some (.slice A' xs.length c') := q1
    have q2' : (W1.putObj D (.deferred none)).cell? ⟨w.heap.size + 1, 0, none⟩ = some (.int .i64 (ends (scans b) : Nat)) := q2
    refine ⟨.tuple #[.slice A' xs.length c', .int .i64 (ends (scans b) : Nat)], by simp [results, Try.results11, go_sem, q1', q2'], A', c', by rw [HLN.out], ?_, Turns.keep ht hkeep (by omega)⟩
    intro i q hq
    rw [← HX.out, List.getElem?_map] at hq
    cases hxi : xs[i]? with
    | none => rw [hxi] at hq; cases hq
    | some x =>
      rw [hxi] at hq
      simp at hq
      subst hq
      have hmem := List.mem_of_getElem? hxi
      obtain ⟨g, o, hA', hcell⟩ := (Turns.fresh ht hrow).reads i (rowV x) (by rw [List.getElem?_map, hxi]; rfl)
      have hfx := Turns.fresh ht (hall x hmem)
      refine ⟨g, o, x.A, x.c, hA', hcell, ⟨hfx.reads, (H4.out x hmem).2.1⟩, ?_, ?_⟩
      · intro h0
        have := hfx.none_ h0
        simpa using this
      · have := (H4.out x hmem).2.2
        omega
end Go.Proofs.Ytopdedhdfaomfaa
