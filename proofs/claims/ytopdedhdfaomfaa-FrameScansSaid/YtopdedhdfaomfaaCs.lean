/- FrameScans walked. -/
import Derived.Test.YtopdedhdfaomfaaRi
import Derived.Test.YtopdedhdfaomfaaRs
import Derived.Test.YtopdedhdfaomfaaLe
namespace Go.Proofs.Ytopdedhdfaomfaa
open Go.RowKit Go.BigFrame Go.Shelf
attribute [local go_sem] Oper.semAt_some
def CsI (W0 : World) (s : Nat) (b : List Nat) (xs : List Fr) (W : World) : Prop :=
  Keep (fun k => k = s ∨ k = s + 1) W0 W ∧ Blk W s 3 #[.int .i64 (xs.length : Nat)] ∧ Blk W (s + 1) 3 #[.int .i64 (ends (xs.map (·.p)) : Nat)] ∧ Came b (xs.map (·.p))
theorem CsI.turns {W0 : World} {s : Nat} {b : List Nat} (xs : List Fr) (A B : World) (h : CsI W0 s b xs A) (ht : Turns W0.heap.size A B) : CsI W0 s b xs B :=
  ⟨Turns.keep ht h.1 (Nat.le_refl _), Turns.blk ht h.2.1, Turns.blk ht h.2.2.1, h.2.2.2⟩
theorem Came.get {b : List Nat} {pre : List (List Nat)} (h : Came b pre) (hz : nextE (b.drop (ends pre)) = 0) : (scans b)[pre.length]? = some (payload (b.drop (ends pre))) ∧ pre.length < (scans b).length := by
  have e := h.1
  rw [scans_yes hz] at e
  constructor
  · rw [e, List.getElem?_append_right (Nat.le_refl _), Nat.sub_self]
    rfl
  · rw [e, List.length_append, List.length_cons]
    omega
theorem Came.length {b : List Nat} {pre : List (List Nat)} (h : Came b pre) : pre.length ≤ (scans b).length := by
  rw [h.1, List.length_append]
  omega
set_option maxRecDepth 100000 in
set_option maxHeartbeats 8000000 in
set_option pp.deepTerms true in
set_option pp.maxSteps 200000 in
theorem scans_any (A : Option Addr) (c : Nat) (b : List Nat) (most : Int) (w : World) (hb : BytesAt w A b) (hc : b.length ≤ c) (hcm : c ≤ 9223372036854775807) :
    Calls Try.prog 8 #[.slice A b.length c, .int .i64 most] w fun e w' => e = .returned (.bool true) ∧ Keep (fun _ => False) w w' := by
  have HB := Lib.hid hb
  have HA : Hid (∀ g o, A = some ⟨g, o, none⟩ → b.length ≠ 0 → g < w.heap.size) := by
    intro g o h h0
    obtain ⟨g', o', e, hlt⟩ := hb.place h0
    rw [h] at e
    cases e
    exact hlt
  clear hb
  refine (callsIn_wide (n := 1)).1 (callsIn_of_wp_marks Try.func8 rfl trivial ?_ rfl)
  simp only [Try.ntmps8, List.size_toArray, List.length_cons, List.length_nil, Nat.reduceAdd, Nat.reduceSub, Array.replicate_succ, Array.replicate_zero, List.push_toArray, List.append_toArray, List.nil_append, List.cons_append]
  refine wpIn_wide.2 ?_
  by_cases hla : 3000 < b.length
  · go_wp2_with fail
    refine (alive_does _).mono ?_
    rintro e w2 ⟨rfl, hk⟩
    have b1 : Blk w2 (w.heap.size + 1) 4 #[.bool false] := Blk.keep (by
      have := Blk.new (w.alloc (.cells #[.int .i64 most] 3)) 4 #[.bool false]
      rwa [World.size_alloc] at this) hk (fun h => h)
    have c1 := b1.cell 0
    have f1 := b1.frozen 0
    have HK : Hid (Keep (fun _ => False) w w2) := Keep.trans (((Keep.refl _ w).alloc _).alloc _) hk (fun _ _ h => h)
    have c2 := (Blk.set1 b1 (.bool true)).cell 0
    have HK2 : Hid (Keep (fun _ => False) w (w2.setCell ⟨w.heap.size + 1, 0, none⟩ (.bool true))) := Keep.setCell HK (fun h => absurd h (by simp)) _
    clear hk b1
    go_wp2_with fail
    have c2' : (w2.setCell ⟨w.heap.size + 1, 0, none⟩ (.bool true)).cell? ⟨w.heap.size + 1, 0, none⟩ = some (.bool true) := c2
    refine ⟨.bool true, by simp [results, Try.results8, go_sem, c2'], rfl, HK2⟩
  go_wp2_with fail
  refine (scan_does A c b _ (BytesAt.keep HB (((Keep.refl _ w).alloc _).alloc _)) hc hcm (by omega)).mono ?_
  rintro e w2 ⟨AL, cL, rfl, hR, hk⟩
  have c0 : Blk w2 w.heap.size 3 #[.int .i64 most] := Blk.keep ((Blk.new w 3 #[.int .i64 most]).alloc _) hk (fun h => h)
  have b1 : Blk w2 (w.heap.size + 1) 4 #[.bool false] := Blk.keep (by
    have := Blk.new (w.alloc (.cells #[.int .i64 most] 3)) 4 #[.bool false]
    rwa [World.size_alloc] at this) hk (fun h => h)
  have HK2 : Hid (Keep (fun _ => False) w w2) := Keep.trans (((Keep.refl _ w).alloc _).alloc _) hk (fun _ _ h => h)
  have HR2 := Lib.hid hR
  have hz1 : w.heap.size + 2 ≤ w2.heap.size := by
    have := hk.size
    simpa using this
  have HC0 := Lib.hid c0
  have HB1 := Lib.hid b1
  clear hk hR c0 b1
  go_wp2_with fail
  refine (refScan_does A b.length c b _ rfl (BytesAt.keep HB (HK2.out.alloc _)) hc hcm (by omega)).mono ?_
  rintro e w4 ⟨AM, cM, rfl, hR4, hk4⟩
  have k24 : Keep (fun _ => False) w2 w4 := Keep.trans ((Keep.refl _ w2).alloc _) hk4 (fun _ _ h => h)
  have c5 : Blk w4 w2.heap.size 22 #[.slice AL (scans b).length cL] := Blk.keep (Blk.new w2 22 _) hk4 (fun h => h)
  have HC0 : Hid (Blk w4 w.heap.size 3 #[.int .i64 most]) := Blk.keep HC0 k24 (fun h => h)
  have HB1 : Hid (Blk w4 (w.heap.size + 1) 4 #[.bool false]) := Blk.keep HB1 k24 (fun h => h)
  have HR2 : Hid (RowsAt w4 AL (scans b)) := RowsAt.keep HR2 k24
  have HK4 : Hid (Keep (fun _ => False) w w4) := Keep.trans HK2 k24 (fun _ _ h => h)
  have HR4 := Lib.hid hR4
  have hz2 : w2.heap.size + 1 ≤ w4.heap.size := by
    have := hk4.size
    simpa using this
  have q5 : w4.cell? ⟨w2.heap.size, 0, none⟩ = some (.slice AL (scans b).length cL) := c5.cell 0
  have q5' := cell_alloc_some q5 (.cells #[.slice AM (scans b).length cM] 22)
  have HC5 := Lib.hid c5
  have hend := scans_ends b
  have hge := ends_ge (scans b)
  clear hk4 k24 hR4 c5 HK2
  go_wp2_with fail
  refine (each_does A b.length c _).mono ?_
  rintro e w8 ⟨rfl, rfl⟩
  go_wp2_with fail
  have k40 : Keep (fun _ => False) w4 ((((w4.alloc (.cells #[.slice AM (scans b).length cM] 22)).alloc (.cells #[.int .i64 0] 3)).alloc (.cells #[.int .i64 0] 3)).alloc (.cells #[.slice A b.length c] 23)) := ((((Keep.refl _ w4).alloc _).alloc _).alloc _).alloc _
  have z0 : ((((w4.alloc (.cells #[.slice AM (scans b).length cM] 22)).alloc (.cells #[.int .i64 0] 3)).alloc (.cells #[.int .i64 0] 3)).alloc (.cells #[.slice A b.length c] 23)).heap.size = w4.heap.size + 4 := by simp
  have c7 : Blk ((((w4.alloc (.cells #[.slice AM (scans b).length cM] 22)).alloc (.cells #[.int .i64 0] 3)).alloc (.cells #[.int .i64 0] 3)).alloc (.cells #[.slice A b.length c] 23)) w4.heap.size 22 #[.slice AM (scans b).length cM] := (((Blk.new w4 22 _).alloc _).alloc _).alloc _
  have c9 : Blk ((((w4.alloc (.cells #[.slice AM (scans b).length cM] 22)).alloc (.cells #[.int .i64 0] 3)).alloc (.cells #[.int .i64 0] 3)).alloc (.cells #[.slice A b.length c] 23)) (w4.heap.size + 1) 3 #[.int .i64 0] := by
    have := ((Blk.new (w4.alloc (.cells #[.slice AM (scans b).length cM] 22)) 3 #[.int .i64 0]).alloc (.cells #[.int .i64 0] 3)).alloc (.cells #[.slice A b.length c] 23)
    rwa [World.size_alloc] at this
  have c10 : Blk ((((w4.alloc (.cells #[.slice AM (scans b).length cM] 22)).alloc (.cells #[.int .i64 0] 3)).alloc (.cells #[.int .i64 0] 3)).alloc (.cells #[.slice A b.length c] 23)) (w4.heap.size + 1 + 1) 3 #[.int .i64 0] := by
    have := (Blk.new ((w4.alloc (.cells #[.slice AM (scans b).length cM] 22)).alloc (.cells #[.int .i64 0] 3)) 3 #[.int .i64 0]).alloc (.cells #[.slice A b.length c] 23)
    rwa [World.size_alloc, World.size_alloc] at this
  have cN : Blk ((((w4.alloc (.cells #[.slice AM (scans b).length cM] 22)).alloc (.cells #[.int .i64 0] 3)).alloc (.cells #[.int .i64 0] 3)).alloc (.cells #[.slice A b.length c] 23)) (w4.heap.size + 1 + 1 + 1) 23 #[.slice A b.length c] := by
    have := Blk.new (((w4.alloc (.cells #[.slice AM (scans b).length cM] 22)).alloc (.cells #[.int .i64 0] 3)).alloc (.cells #[.int .i64 0] 3)) 23 #[.slice A b.length c]
    rwa [World.size_alloc, World.size_alloc, World.size_alloc] at this
  generalize ((((w4.alloc (.cells #[.slice AM (scans b).length cM] 22)).alloc (.cells #[.int .i64 0] 3)).alloc (.cells #[.int .i64 0] 3)).alloc (.cells #[.slice A b.length c] 23)) = W0 at *
  have HC0 : Hid (Blk W0 w.heap.size 3 #[.int .i64 most]) := Blk.keep HC0 k40 (fun h => h)
  have HB1 : Hid (Blk W0 (w.heap.size + 1) 4 #[.bool false]) := Blk.keep HB1 k40 (fun h => h)
  have HC5 : Hid (Blk W0 w2.heap.size 22 #[.slice AL (scans b).length cL]) := Blk.keep HC5 k40 (fun h => h)
  have HC7 := Lib.hid c7
  have HK0 : Hid (Keep (fun _ => False) w W0) := Keep.trans HK4 k40 (fun _ _ h => h)
  have HK40 := Lib.hid k40
  clear q5 q5' c7 k40
  refine wp_range (gf := 26) (lb := #[.pointer (some ⟨w4.heap.size + 1 + 1 + 1, 0, none⟩)]) (T := fun k => k = w4.heap.size + 1 ∨ k = w4.heap.size + 1 + 1) rfl (enters_of Try.func26 (by kernel_rfl) rfl)
    (each1_gives A c b W0 (w4.heap.size + 1 + 1 + 1) w.heap.size _ (BytesAt.keep HB HK0) hc hcm (by omega) cN (by omega) (fun g o h h0 => ⟨by have := HA.out g o h h0; omega, by have := HA.out g o h h0; omega⟩) (by omega)) (fun _ => rfl)
    (by omega) (by omega) (fun xs W => CsI W0 (w4.heap.size + 1) b xs W ∧ (1 ≤ most → (xs.length : Int) < most)) (fun c xs W => c = .exit 0 ∧ CsI W0 (w4.heap.size + 1) b xs W ∧ (xs.length : Int) = most ∧ xs ≠ []) (fun xs X Y h ht => ⟨CsI.turns xs X Y h.1 ht, h.2⟩) (fun cc xs X Y h ht => ⟨h.1, CsI.turns xs X Y h.2.1 ht, h.2.2⟩)
    (fun pre x X Y h ht => ⟨h.1, h.2.1, h.2.2.1, h.2.2.2.1, Turns.fresh ht h.2.2.2.2.1, h.2.2.2.2.2⟩)
    ⟨⟨Keep.refl _ _, c9, c10, came_nil b⟩, fun h => by simp; omega⟩
    (fun x => { tmps := #[.slice A b.length c, .int .i64 most, undef, .pointer (some ⟨w.heap.size, 0, none⟩), .pointer (some ⟨w.heap.size + 1, 0, none⟩), .pointer (some ⟨w2.heap.size, 0, none⟩), .int .i64 (ends (scans b) : Nat), .pointer (some ⟨w4.heap.size, 0, none⟩), .int .i64 (ends (scans b) : Nat), .pointer (some ⟨w4.heap.size + 1, 0, none⟩), .pointer (some ⟨w4.heap.size + 1 + 1, 0, none⟩), .int .i64 x.at_, .slice x.A x.p.length x.c, undef, .slice A b.length c, .int .i64 (b.length : Nat), .bool (decide ((3000 : Int) < (b.length : Nat))), undef, .tuple #[.slice AL (scans b).length cL, .int .i64 (ends (scans b) : Nat)], .slice A b.length c, .tuple #[.slice AL (scans b).length cL, .int .i64 (ends (scans b) : Nat)], .slice AL (scans b).length cL, .int .i64 (ends (scans b) : Nat), .tuple #[.slice AM (scans b).length cM, .int .i64 (ends (scans b) : Nat)], .slice A b.length c, .tuple #[.slice AM (scans b).length cM, .int .i64 (ends (scans b) : Nat)], .slice AM (scans b).length cM, .int .i64 (ends (scans b) : Nat), .int .i64 (ends (scans b) : Nat), .int .i64 (ends (scans b) : Nat), .bool false, .bool false, .slice AL (scans b).length cL, .int .i64 ((scans b).length : Nat), .slice AM (scans b).length cM, .int .i64 ((scans b).length : Nat), .bool false, .bool false, .slice A b.length c, .func (.func 26) #[] #[.pointer (some ⟨w4.heap.size + 1 + 1 + 1, 0, none⟩)], .int .i64 x.at_, .slice x.A x.p.length x.c, undef, undef, undef, undef, undef, undef, undef, undef, undef, undef, undef, undef, undef, undef, undef, undef, undef, undef, undef, undef, undef, undef, undef, undef, undef, undef, undef, undef, undef, undef, undef, undef, undef, undef, undef, undef, undef, undef, undef, undef, undef, undef, undef, undef, undef, undef, undef, undef, undef, undef, undef, undef, undef], defers := [] }) ?assign ?body ?done ?stop
  case assign =>
    intro l x W K hK
    gi_wp2
    exact hK
  case body =>
    rintro l pre x W ⟨⟨hK, h1, h2, h3⟩, hmost⟩ ⟨f1, f2, f3, f4, f5, f6⟩ hlt
    have hz := f3
    rw [f2] at hz
    obtain ⟨hg, hgl⟩ := Came.get f1 hz
    rw [← f2, ← f4, List.length_map] at hg
    rw [List.length_map] at hgl
    have hnx := Came.next f1 hz
    rw [← f2, ← f4] at hnx
    have hk4W : Keep (fun _ => False) w4 W := Keep.trans HK40 hK (fun i hi h => by omega)
    obtain ⟨gM, oM, Am, cm, rfl, hcM, hbM, _, _⟩ := (RowsAt.keep HR4 hk4W) pre.length x.p hg
    obtain ⟨gL, oL, Al, cl, rfl, hcL, hbL, _, _⟩ := (RowsAt.keep HR2 hk4W) pre.length x.p hg
    have hend : ends ((pre ++ [x]).map (·.p)) = ends (pre.map (·.p)) + (6 + x.p.length) := by rw [List.map_append]; exact ends_snoc _ _
    have hnx1 : Came b ((pre ++ [x]).map (·.p)) := by rw [List.map_append]; exact hnx.1
    have hpl : x.p.length ≤ 3000 := by have := hnx1.2; omega
    have hat : x.at_ = ends (pre.map (·.p)) := f2
    have c0 := (Blk.keep HC0 hK (by omega)).cell 0
    have c5 := (Blk.keep HC5 hK (by omega)).cell 0
    have c7 := (Blk.keep HC7 hK (by omega)).cell 0
    have d1 := h1.cell 0
    have d2 := h2.cell 0
    have e1 := h1.frozen 0
    have e2 := h2.frozen 0
    have hbx : BytesAt W x.A x.p := ⟨f5.reads, f6⟩
    have HBX := Lib.hid hbx
    have HBM := Lib.hid hbM
    have HBL := Lib.hid hbL
    have H1 := Lib.hid h1
    have H2 := Lib.hid h2
    have HK := Lib.hid hK
    have HMO := Lib.hid hmost
    have HEN := Lib.hid hend
    have HN1 := Lib.hid hnx1
    have j0 : (0 : Int) ≤ (pre.length : Int) := by omega
    have j1 : (pre.length : Int) < ((scans b).length : Int) := by omega
    have j2 : ¬ ((scans b).length : Int) ≤ (pre.length : Int) := by omega
    have j3 : ¬ (scans b).length ≤ pre.length := by omega
    rw [← hat] at d2
    have HAT := Lib.hid hat
    have hae : x.at_ ≤ 3000 := by have := f1.2; omega
    clear hz hg hgl hnx hk4W hbM hbL hbx h1 h2 hK hmost hend hnx1 f1 f2 f3 f4 f5 f6 h3 hat
    gi_wp2_with fail
    refine regionIn_quiet (lets_round l 0 Try.prog) (by kernel_rfl) (by kernel_rfl) (by kernel_rfl) ?_
    repeat (go_big_quiet_step ((go_at_call 12; first | exact Calls.quiet_of_same (equal_yes _ _ _ _ _ _ x.p _ rfl rfl (BytesAt.keep HBX (Keep.drewN (Keep.refl _ _) _)) (BytesAt.keep HBM (Keep.drewN (Keep.refl _ _) _))) | exact Calls.quiet_of_same (equal_yes _ _ _ _ _ _ x.p _ rfl rfl (BytesAt.keep HBL (Keep.drewN (Keep.refl _ _) _)) (BytesAt.keep HBM (Keep.drewN (Keep.refl _ _) _))))))
    refine wpQuiet_nil ?_
    rintro _ ⟨nq, rfl⟩
    gi_wp2_with fail
    have FIN : ∀ (W' : World), W' = (((W.drewN nq).drew).setCell ⟨w4.heap.size + 1, 0, none⟩ (.int .i64 ((pre.length : Int) + 1))).setCell ⟨w4.heap.size + 1 + 1, 0, none⟩ (.int .i64 ((x.at_ : Int) + 6 + x.p.length)) → Keep (fun k => k = w4.heap.size + 1 ∨ k = w4.heap.size + 1 + 1) W W' ∧ CsI W0 (w4.heap.size + 1) b (pre ++ [x]) W' := by
      rintro W' rfl
      have hk : Keep (fun k => k = w4.heap.size + 1 ∨ k = w4.heap.size + 1 + 1) W ((((W.drewN nq).drew).setCell ⟨w4.heap.size + 1, 0, none⟩ (.int .i64 ((pre.length : Int) + 1))).setCell ⟨w4.heap.size + 1 + 1, 0, none⟩ (.int .i64 ((x.at_ : Int) + 6 + x.p.length))) :=
        ((((Keep.refl _ W).drewN nq).drew).setCell (fun _ => .inl rfl) _).setCell (fun _ => .inr rfl) _
      have hb1 : Blk ((W.drewN nq).drew) (w4.heap.size + 1) 3 #[.int .i64 (pre.length : Nat)] := Blk.keep H1 ((Keep.refl (fun _ => False) W).drewN nq).drew (fun h => h)
      have hb2 : Blk ((W.drewN nq).drew) (w4.heap.size + 1 + 1) 3 #[.int .i64 (ends (pre.map (·.p)) : Nat)] := Blk.keep H2 ((Keep.refl (fun _ => False) W).drewN nq).drew (fun h => h)
      refine ⟨hk, Keep.trans HK hk (fun _ _ h => h), ?_, ?_, HN1⟩
      · have := (Blk.set1 hb1 (.int .i64 ((pre.length : Int) + 1))).far (p := ⟨w4.heap.size + 1 + 1, 0, none⟩) (by simp) (.int .i64 ((x.at_ : Int) + 6 + x.p.length))
        rw [List.length_append]
        exact this
      · have := (hb2.far (p := ⟨w4.heap.size + 1, 0, none⟩) (by simp) (.int .i64 ((pre.length : Int) + 1))).set1 (.int .i64 ((x.at_ : Int) + 6 + x.p.length))
        rw [HEN.out, ← HAT.out]
        have e : ((x.at_ + (6 + x.p.length) : Nat) : Int) = (x.at_ : Int) + 6 + x.p.length := by push_cast; omega
        rw [e]
        exact this
    refine regionIn_round l rfl (by kernel_rfl) (by kernel_rfl) ?_
    refine wpAnyIn_take (i := 4) (v := ?_) rfl rfl (by kernel_rfl) (by kernel_rfl) (by kernel_rfl) (fun _ _ _ h => h) ⟨Or.inl ⟨by rfl, by intro w; go_simp; try with_reducible rfl⟩, fun _ => rfl⟩ ?_
    refine wpAnyIn_take (i := 5) (v := ?_) rfl rfl (by kernel_rfl) (by kernel_rfl) (by kernel_rfl) (fun _ _ _ h => h) ⟨Or.inl ⟨by rfl, by intro w; go_simp; try with_reducible rfl⟩, fun _ => rfl⟩ ?_
    refine wpAnyIn_ready (rs := [0, 2]) (by kernel_rfl) (by simp) (AllReadyIn.cons rfl (fun K hK => ?_) (AllReadyIn.cons rfl (fun K hK => ?_) AllReadyIn.nil))
    · go_simp
      refine hK _ _ ?_
      clear hK K
      refine wpAnyIn_take (i := 1) (v := ?_) rfl rfl (by kernel_rfl) (by kernel_rfl) (by kernel_rfl) (fun _ _ _ h => h) ⟨Or.inl ⟨by rfl, by intro w; go_simp; try with_reducible rfl⟩, fun _ => rfl⟩ ?_
      refine wpAnyIn_ready (rs := [2, 7]) (by kernel_rfl) (by simp) (AllReadyIn.cons rfl (fun K hK => ?_) (AllReadyIn.cons rfl (fun K hK => ?_) AllReadyIn.nil))
      · go_simp
        refine hK _ _ ?_
        clear hK K
        refine wpAnyIn_take (i := 3) (v := ?_) rfl rfl (by kernel_rfl) (by kernel_rfl) (by kernel_rfl) (fun _ _ _ h => h) ⟨Or.inl ⟨by rfl, by intro w; go_simp; try with_reducible rfl⟩, fun _ => rfl⟩ ?_
        refine wpAnyIn_take (i := 6) (v := ?_) rfl rfl (by kernel_rfl) (by kernel_rfl) (by kernel_rfl) (fun _ _ _ h => h) ⟨Or.inl ⟨by rfl, by intro w; go_simp; try with_reducible rfl⟩, fun _ => rfl⟩ ?_
        refine wpAnyIn_ready (rs := [7]) (by kernel_rfl) (by simp) (AllReadyIn.cons rfl (fun K hK => ?_) AllReadyIn.nil)
        go_simp
        refine hK _ _ ?_
        clear hK K
        refine wpAnyIn_ready (rs := [8]) (by kernel_rfl) (by simp) (AllReadyIn.cons rfl (fun K hK => ?_) AllReadyIn.nil)
        go_simp
        refine hK _ _ ?_
        clear hK K
        refine wpAnyIn_done (by kernel_rfl) ?_ _
        by_cases hm1 : (pre.length : Int) + 1 = most
        · gi_wp2_with fail
          have e := FIN _ rfl
          rw [hm1] at e
          exact ⟨e.1, rfl, e.2, by simp; omega, by simp⟩
        · gi_wp2_with fail
          refine ⟨(FIN _ rfl).1, (FIN _ rfl).2, fun h => ?_⟩
          have := HMO.out h
          simp
          omega
      · go_simp
        refine hK _ _ ?_
        clear hK K
        refine wpAnyIn_ready (rs := [2]) (by kernel_rfl) (by simp) (AllReadyIn.cons rfl (fun K hK => ?_) AllReadyIn.nil)
        go_simp
        refine hK _ _ ?_
        clear hK K
        refine wpAnyIn_take (i := 3) (v := ?_) rfl rfl (by kernel_rfl) (by kernel_rfl) (by kernel_rfl) (fun _ _ _ h => h) ⟨Or.inl ⟨by rfl, by intro w; go_simp; try with_reducible rfl⟩, fun _ => rfl⟩ ?_
        refine wpAnyIn_take (i := 6) (v := ?_) rfl rfl (by kernel_rfl) (by kernel_rfl) (by kernel_rfl) (fun _ _ _ h => h) ⟨Or.inl ⟨by rfl, by intro w; go_simp; try with_reducible rfl⟩, fun _ => rfl⟩ ?_
        refine wpAnyIn_ready (rs := [8]) (by kernel_rfl) (by simp) (AllReadyIn.cons rfl (fun K hK => ?_) AllReadyIn.nil)
        go_simp
        refine hK _ _ ?_
        clear hK K
        refine wpAnyIn_done (by kernel_rfl) ?_ _
        by_cases hm1 : (pre.length : Int) + 1 = most
        · gi_wp2_with fail
          have e := FIN _ rfl
          rw [hm1] at e
          exact ⟨e.1, rfl, e.2, by simp; omega, by simp⟩
        · gi_wp2_with fail
          refine ⟨(FIN _ rfl).1, (FIN _ rfl).2, fun h => ?_⟩
          have := HMO.out h
          simp
          omega
    · go_simp
      refine hK _ _ ?_
      clear hK K
      refine wpAnyIn_take (i := 3) (v := ?_) rfl rfl (by kernel_rfl) (by kernel_rfl) (by kernel_rfl) (fun _ _ _ h => h) ⟨Or.inl ⟨by rfl, by intro w; go_simp; try with_reducible rfl⟩, fun _ => rfl⟩ ?_
      refine wpAnyIn_take (i := 6) (v := ?_) rfl rfl (by kernel_rfl) (by kernel_rfl) (by kernel_rfl) (fun _ _ _ h => h) ⟨Or.inl ⟨by rfl, by intro w; go_simp; try with_reducible rfl⟩, fun _ => rfl⟩ ?_
      refine wpAnyIn_ready (rs := [0]) (by kernel_rfl) (by simp) (AllReadyIn.cons rfl (fun K hK => ?_) AllReadyIn.nil)
      go_simp
      refine hK _ _ ?_
      clear hK K
      refine wpAnyIn_take (i := 1) (v := ?_) rfl rfl (by kernel_rfl) (by kernel_rfl) (by kernel_rfl) (fun _ _ _ h => h) ⟨Or.inl ⟨by rfl, by intro w; go_simp; try with_reducible rfl⟩, fun _ => rfl⟩ ?_
      refine wpAnyIn_ready (rs := [7]) (by kernel_rfl) (by simp) (AllReadyIn.cons rfl (fun K hK => ?_) AllReadyIn.nil)
      go_simp
      refine hK _ _ ?_
      clear hK K
      refine wpAnyIn_ready (rs := [8]) (by kernel_rfl) (by simp) (AllReadyIn.cons rfl (fun K hK => ?_) AllReadyIn.nil)
      go_simp
      refine hK _ _ ?_
      clear hK K
      refine wpAnyIn_done (by kernel_rfl) ?_ _
      by_cases hm1 : (pre.length : Int) + 1 = most
      · gi_wp2_with fail
        have e := FIN _ rfl
        rw [hm1] at e
        exact ⟨e.1, rfl, e.2, by simp; omega, by simp⟩
      · gi_wp2_with fail
        refine ⟨(FIN _ rfl).1, (FIN _ rfl).2, fun h => ?_⟩
        have := HMO.out h
        simp
        omega
  case' done =>
    rintro D xs W hD hxs ⟨⟨hK, h1, h2, h3⟩, hmost⟩ hKD
    have hN : (1 ≤ most → (xs.length : Int) = min ((scans b).length : Int) most) ∧ (¬ 1 ≤ most → (xs.length : Int) = ((scans b).length : Int)) := by
      have hl : xs.length = (scans b).length := by rw [← hxs]; simp
      constructor
      · intro h
        have := hmost h
        omega
      · intro _
        omega
    clear hxs hmost
  case' stop =>
    rintro D cc xs W hD hxs ⟨rfl, ⟨hK, h1, h2, h3⟩, hmost, hne⟩ hKD
    have hN : (1 ≤ most → (xs.length : Int) = min ((scans b).length : Int) most) ∧ (¬ 1 ≤ most → (xs.length : Int) = ((scans b).length : Int)) := by
      have hl := Came.length hxs
      rw [List.length_map] at hl
      have hp := List.length_pos_iff.2 hne
      constructor
      · intro h
        omega
      · intro h
        omega
    clear hxs hmost hne
  all_goals
    have q7 : W.cell? ⟨w4.heap.size, 0, none⟩ = some (.slice AM (scans b).length cM) := (Blk.keep HC7 hK (by omega)).cell 0
    have q0 : W.cell? ⟨w.heap.size, 0, none⟩ = some (.int .i64 most) := (Blk.keep HC0 hK (by omega)).cell 0
    have HB1W : Hid (Blk W (w.heap.size + 1) 4 #[.bool false]) := Blk.keep HB1 hK (by omega)
    have HKW : Hid (Keep (fun _ => False) w W) := Keep.trans HK0 hK (fun i hi h => by omega)
    have H1 := Lib.hid h1
    have HKD := Lib.hid hKD
    have hDl := (Array.getElem?_eq_some_iff.1 hKD).1
    have hl3 : (scans b).length ≤ 3000 := by omega
    clear hK h1 h2 h3 hKD
    generalize hxl : xs.length = N at *
    clear hxl
    by_cases hm1 : 1 ≤ most
    all_goals
      have hN1 : (N : Int) = if 1 ≤ most then min ((scans b).length : Int) most else ((scans b).length : Int) := by
        first | rw [if_pos hm1] | rw [if_neg hm1]
        first | exact hN.1 hm1 | exact hN.2 hm1
      first | rw [if_pos hm1] at hN1 | rw [if_neg hm1] at hN1
      go_wp2_with fail
      refine (alive_does _).mono ?_
      rintro e w5 ⟨rfl, hk5⟩
      have q9 : w5.cell? ⟨w4.heap.size + 1, 0, none⟩ = some (.int .i64 (N : Nat)) := (Blk.keep H1 hk5 (fun h => h)).cell 0
      have hB5 : Blk w5 (w.heap.size + 1) 4 #[.bool false] := Blk.keep HB1W hk5 (fun h => h)
      have f5 := hB5.frozen 0
      have e5 := hB5.cell 0
      have hKD5 : w5.heap[D]? = some (.deferred (some [])) := (hk5.block D hDl (fun h => h)).trans HKD
      have hK5 : Keep (fun _ => False) w (w5.setCell ⟨w.heap.size + 1, 0, none⟩ (.bool true)) := (Keep.trans HKW hk5 (fun _ _ h => h)).setCell (fun h => absurd h (by simp)) _
      have hB6 : Blk (w5.setCell ⟨w.heap.size + 1, 0, none⟩ (.bool true)) (w.heap.size + 1) 4 #[.bool true] := Blk.set1 hB5 _
      have hKD6 : (w5.setCell ⟨w.heap.size + 1, 0, none⟩ (.bool true)).heap[D]? = some (.deferred (some [])) := (Below.heap_setCell w5 ⟨w.heap.size + 1, 0, none⟩ (.bool true) D (by simp; omega)).trans hKD5
      have HK5 := Lib.hid hK5
      have HB6 := Lib.hid hB6
      have HKD6 := Lib.hid hKD6
      clear hk5 hB5 hKD5 hK5 hB6 hKD6 HKD H1 HB1W HKW
      go_wp2_with fail
      have ht : Turns (w.heap.size + 3) (w5.setCell ⟨w.heap.size + 1, 0, none⟩ (.bool true)) ((w5.setCell ⟨w.heap.size + 1, 0, none⟩ (.bool true)).putObj D (.deferred none)) := Turns.put (by omega) HKD6.out rfl
      have q1 := (Turns.blk ht HB6).cell 0
      have q1' : ((w5.setCell ⟨w.heap.size + 1, 0, none⟩ (.bool true)).putObj D (.deferred none)).cell? ⟨w.heap.size + 1, 0, none⟩ = some (.bool true) := q1
      refine ⟨by simp, .inl ⟨_, _, rfl, run_takeDeferred HKD6, ?_⟩⟩
      exact ⟨.bool true, by simp [results, Try.results8, go_sem, q1'], rfl, Turns.keep ht HK5 (by omega)⟩
end Go.Proofs.Ytopdedhdfaomfaa
