/- Top and Turn walked (I). -/
import Derived.Test.YtimkbbdncajggaaNI
namespace Go.Proofs.Ytimkbbdncajggaa
open Go.RowKit Go.BigFrame Go.Shelf
attribute [local go_sem] Oper.semAt_some
def topI (L : List (Int)) (at_ : Nat) : Int := (L[at_]?).getD (0)
def TopII (W0 : World) (at_ : Nat) (xs : List (Nat × Int)) (W : World) : Prop := Keep (fun _ => False) W0 W ∧ xs.length ≤ at_
def TopXI (W0 : World) (z : Nat) (L : List (Int)) (at_ : Nat) (c : Code) (_ : List (Nat × Int)) (W : World) : Prop :=
  c = .ret ∧ Keep (fun k => k = z + 1 ∨ k = z + 1 + 1) W0 W ∧ Blk W (z + 1) 3 #[vali (topI L at_)] ∧ Blk W (z + 1 + 1) 4 #[.bool true] ∧ 0 < L.length
set_option maxRecDepth 100000 in
set_option maxHeartbeats 4000000 in
theorem topI_does {w : World} {B : Nat} {A : Option Addr} {c lim : Nat} {L : List (Int)} {at_ : Nat} (h : RingI w B A c lim L at_) :
    Calls Try.prog 27 #[.pointer (some ⟨B, 0, none⟩)] w fun e w' => e = .returned (.tuple #[vali (topI L at_), .bool (decide (0 < L.length))]) ∧ Keep (fun _ => False) w w' := by
  have H := Lib.hid h
  have hlt := h.lt
  have hat := h.at_
  have hlen : L.length ≤ 64 := Nat.le_trans h.few h.most
  clear h
  refine (callsIn_wide (n := 1)).1 (callsIn_of_wp_marks Try.func27 rfl trivial ?_ rfl)
  simp only [Try.ntmps27, List.size_toArray, List.length_cons, List.length_nil, Nat.reduceAdd, Nat.reduceSub, Array.replicate_succ, Array.replicate_zero, List.push_toArray, List.append_toArray, List.nil_append, List.cons_append]
  refine wpIn_wide.2 ?_
  go_wp2_with fail
  refine (allI_does B _).mono ?_
  rintro e w2 ⟨rfl, rfl⟩
  go_wp2_with fail
  have b0 : Blk ((((w.alloc (.cells #[.pointer (some ⟨B, 0, none⟩)] 24)).alloc (.cells #[.int .i64 0] 3)).alloc (.cells #[.bool false] 4)).alloc (.cells #[.pointer (some ⟨B, 0, none⟩)] 24)) w.heap.size 24 #[.pointer (some ⟨B, 0, none⟩)] := (((Blk.new w _ _).alloc _).alloc _).alloc _
  have b1 : Blk ((((w.alloc (.cells #[.pointer (some ⟨B, 0, none⟩)] 24)).alloc (.cells #[.int .i64 0] 3)).alloc (.cells #[.bool false] 4)).alloc (.cells #[.pointer (some ⟨B, 0, none⟩)] 24)) (w.heap.size + 1) 3 #[.int .i64 0] := by
    have := ((Blk.new (w.alloc (.cells #[.pointer (some ⟨B, 0, none⟩)] 24)) 3 #[.int .i64 0]).alloc (.cells #[.bool false] 4)).alloc (.cells #[.pointer (some ⟨B, 0, none⟩)] 24)
    rwa [World.size_alloc] at this
  have b2 : Blk ((((w.alloc (.cells #[.pointer (some ⟨B, 0, none⟩)] 24)).alloc (.cells #[.int .i64 0] 3)).alloc (.cells #[.bool false] 4)).alloc (.cells #[.pointer (some ⟨B, 0, none⟩)] 24)) (w.heap.size + 1 + 1) 4 #[.bool false] := by
    have := (Blk.new ((w.alloc (.cells #[.pointer (some ⟨B, 0, none⟩)] 24)).alloc (.cells #[.int .i64 0] 3)) 4 #[.bool false]).alloc (.cells #[.pointer (some ⟨B, 0, none⟩)] 24)
    rwa [World.size_alloc, World.size_alloc] at this
  have b3 : Blk ((((w.alloc (.cells #[.pointer (some ⟨B, 0, none⟩)] 24)).alloc (.cells #[.int .i64 0] 3)).alloc (.cells #[.bool false] 4)).alloc (.cells #[.pointer (some ⟨B, 0, none⟩)] 24)) (w.heap.size + 1 + 1 + 1) 24 #[.pointer (some ⟨B, 0, none⟩)] := by
    have := Blk.new (((w.alloc (.cells #[.pointer (some ⟨B, 0, none⟩)] 24)).alloc (.cells #[.int .i64 0] 3)).alloc (.cells #[.bool false] 4)) 24 #[.pointer (some ⟨B, 0, none⟩)]
    rwa [World.size_alloc, World.size_alloc, World.size_alloc] at this
  have k0 : Keep (fun _ => False) w ((((w.alloc (.cells #[.pointer (some ⟨B, 0, none⟩)] 24)).alloc (.cells #[.int .i64 0] 3)).alloc (.cells #[.bool false] 4)).alloc (.cells #[.pointer (some ⟨B, 0, none⟩)] 24)) := ((((Keep.refl _ w).alloc _).alloc _).alloc _).alloc _
  have z0 : ((((w.alloc (.cells #[.pointer (some ⟨B, 0, none⟩)] 24)).alloc (.cells #[.int .i64 0] 3)).alloc (.cells #[.bool false] 4)).alloc (.cells #[.pointer (some ⟨B, 0, none⟩)] 24)).heap.size = w.heap.size + 4 := by simp
  generalize (((w.alloc (.cells #[.pointer (some ⟨B, 0, none⟩)] 24)).alloc (.cells #[.int .i64 0] 3)).alloc (.cells #[.bool false] 4)).alloc (.cells #[.pointer (some ⟨B, 0, none⟩)] 24) = W0 at *
  have HR0 := Lib.hid (H.out.keep k0 (fun _ _ h => h))
  have B0 := Lib.hid b0
  have B1 := Lib.hid b1
  have B2 := Lib.hid b2
  have K0 := Lib.hid k0
  have HLT := Lib.hid hlt
  refine wp_range (gf := 32) (lb := #[.pointer (some ⟨w.heap.size + 1 + 1 + 1, 0, none⟩)]) (T := fun k => k = w.heap.size + 1 ∨ k = w.heap.size + 1 + 1) rfl (enters_of Try.func32 (by kernel_rfl) rfl)
    (all1I_gives _ HR0 b3 (by omega) (fun k hf => by have := hlt k hf; omega)) (fun _ => rfl)
    (by omega) (by omega) (TopII W0 at_) (TopXI W0 w.heap.size L at_)
    (fun xs X Y h ht => ⟨Turns.keep ht h.1 (Nat.le_refl _), h.2⟩) (fun cc xs X Y h ht => ⟨h.1, Turns.keep ht h.2.1 (Nat.le_refl _), Turns.blk ht h.2.2.1, Turns.blk ht h.2.2.2.1, h.2.2.2.2⟩)
    (fun pre x X Y h _ => h) ⟨Keep.refl _ _, by simp⟩
    (fun x => { tmps := #[.pointer (some ⟨B, 0, none⟩), .pointer (some ⟨w.heap.size, 0, none⟩), .pointer (some ⟨w.heap.size + 1, 0, none⟩), .pointer (some ⟨w.heap.size + 1 + 1, 0, none⟩), .int .i64 (x.1 : Nat), vali x.2, undef, .pointer (some ⟨B, 0, none⟩), .func (.func 32) #[] #[.pointer (some ⟨w.heap.size + 1 + 1 + 1, 0, none⟩)], .int .i64 (x.1 : Nat), vali x.2, undef, undef, undef, undef, undef, undef, undef, undef], defers := [] }) ?assign ?body ?done ?stop
  case assign =>
    intro l x W K hK
    gi_wp2
    exact hK
  case body =>
    rintro l pre x W ⟨hK, hle⟩ ⟨hx1, hx2⟩ hlt
    have q0 : W.cell? ⟨w.heap.size, 0, none⟩ = some (.pointer (some ⟨B, 0, none⟩)) := (Blk.keep B0 hK (fun h => h)).cell 0
    have q2 : W.cell? ⟨B, 2, none⟩ = some (.int .i64 (at_ : Nat)) := ((HR0.out.keep hK (fun _ _ h => h)).blk).cell 2
    have f1 := (Blk.keep B1 hK (fun h => h)).frozen 0
    have f2 := (Blk.keep B2 hK (fun h => h)).frozen 0
    have hb1 := Blk.keep B1 hK (fun h => h)
    have hb2 := Blk.keep B2 hK (fun h => h)
    have o1 : (W.cell? ⟨w.heap.size + 1, 0, none⟩).isSome = true := by rw [hb1.cell 0]; rfl
    have o2 : (W.cell? ⟨w.heap.size + 1 + 1, 0, none⟩).isSome = true := by rw [hb2.cell 0]; rfl
    have e1 : W.cell? ⟨w.heap.size + 1, 0, none⟩ = some (.int .i64 0) := hb1.cell 0
    have e2 : W.cell? ⟨w.heap.size + 1 + 1, 0, none⟩ = some (.bool false) := hb2.cell 0
    have HK := Lib.hid hK
    have HB1 := Lib.hid hb1
    have HB2 := Lib.hid hb2
    have hlt2 := (List.getElem?_eq_some_iff.1 hx2).1
    have HX2 := Lib.hid hx2
    obtain ⟨x1, x2⟩ := x
    simp only at hx1 HX2
    subst hx1
    clear hK hb1 hb2 hx2
    by_cases hk : pre.length = at_
    · have hki : (pre.length : Int) = (at_ : Int) := by omega
      have htop : topI L at_ = x2 := by unfold topI; rw [← hk, HX2]; rfl
      gi_wp2_with fail
      have hk2 : Keep (fun k => k = w.heap.size + 1 ∨ k = w.heap.size + 1 + 1) W ((W.setCell ⟨w.heap.size + 1, 0, none⟩ (vali x2)).setCell ⟨w.heap.size + 1 + 1, 0, none⟩ (.bool true)) := ((Keep.refl _ W).setCell (fun _ => .inl rfl) _).setCell (fun _ => .inr rfl) _
      refine ⟨hk2, rfl, Keep.trans (Keep.mono HK (fun _ _ h => h.elim)) hk2 (fun _ _ h => h), ?_, ?_, by omega⟩
      · rw [htop]
        exact (Blk.set_ HB1 0 _).far (by simp) _
      · exact (Blk.far HB2 (p := ⟨w.heap.size + 1, 0, none⟩) (by simp) _).set_ 0 _
    · have hki : ¬ (pre.length : Int) = (at_ : Int) := by omega
      gi_wp2_with fail
      exact ⟨Keep.refl _ W, HK, by simp; omega⟩
  case done =>
    rintro D xs W hD hxs ⟨hK, hle⟩ hKD
    have hl : xs.length = L.length := by rw [← hxs]; simp
    have hL0 : L.length = 0 := by omega
    have hLn : L = [] := List.eq_nil_of_length_eq_zero hL0
    subst hLn
    have hb1 := Blk.keep B1 hK (fun h => h)
    have hb2 := Blk.keep B2 hK (fun h => h)
    have e1 : W.cell? ⟨w.heap.size + 1, 0, none⟩ = some (.int .i64 0) := hb1.cell 0
    have e2 : W.cell? ⟨w.heap.size + 1 + 1, 0, none⟩ = some (.bool false) := hb2.cell 0
    have f1 := hb1.frozen 0
    have f2 := hb2.frozen 0
    have hk2 : Keep (fun _ => False) w ((W.setCell ⟨w.heap.size + 1, 0, none⟩ (.int .i64 0)).setCell ⟨w.heap.size + 1 + 1, 0, none⟩ (.bool false)) := ((Keep.trans K0 hK (fun _ _ h => h)).setCell (fun h => absurd h (by simp)) _).setCell (fun h => absurd h (by simp; omega)) _
    have hb1' : Blk ((W.setCell ⟨w.heap.size + 1, 0, none⟩ (.int .i64 0)).setCell ⟨w.heap.size + 1 + 1, 0, none⟩ (.bool false)) (w.heap.size + 1) 3 #[.int .i64 0] := (hb1.set_ 0 _).far (by simp) _
    have hb2' : Blk ((W.setCell ⟨w.heap.size + 1, 0, none⟩ (.int .i64 0)).setCell ⟨w.heap.size + 1 + 1, 0, none⟩ (.bool false)) (w.heap.size + 1 + 1) 4 #[.bool false] := (hb2.far (p := ⟨w.heap.size + 1, 0, none⟩) (by simp) _).set_ 0 _
    have hKD' : ((W.setCell ⟨w.heap.size + 1, 0, none⟩ (.int .i64 0)).setCell ⟨w.heap.size + 1 + 1, 0, none⟩ (.bool false)).heap[D]? = some (.deferred (some [])) :=
      ((Below.heap_setCell (W.setCell ⟨w.heap.size + 1, 0, none⟩ (.int .i64 0)) ⟨w.heap.size + 1 + 1, 0, none⟩ (.bool false) D (by simp; omega)).trans (Below.heap_setCell W ⟨w.heap.size + 1, 0, none⟩ (.int .i64 0) D (by simp; omega))).trans hKD
    have HB1' := Lib.hid hb1'
    have HB2' := Lib.hid hb2'
    have HK2 := Lib.hid hk2
    have HKD' := Lib.hid hKD'
    clear hb1 hb2 hb1' hb2' hk2 hKD' hKD hK
    go_wp2_with fail
    generalize (W.setCell ⟨w.heap.size + 1, 0, none⟩ (.int .i64 0)).setCell ⟨w.heap.size + 1 + 1, 0, none⟩ (.bool false) = W1 at *
    have ht : Turns (w.heap.size + 3) W1 (W1.putObj D (.deferred none)) := Turns.put (by omega) HKD' rfl
    refine ⟨by simp, .inl ⟨_, _, rfl, run_takeDeferred HKD', ?_⟩⟩
    have q1' : (W1.putObj D (.deferred none)).cell? ⟨w.heap.size + 1, 0, none⟩ = some (.int .i64 0) := (Turns.blk ht HB1').cell 0
    have q2' : (W1.putObj D (.deferred none)).cell? ⟨w.heap.size + 1 + 1, 0, none⟩ = some (.bool false) := (Turns.blk ht HB2').cell 0
    exact ⟨.tuple #[.int .i64 0, .bool false], by simp [results, Try.results27, go_sem, q1', q2'], by simp [topI], Turns.keep ht HK2 (by omega)⟩
  case stop =>
    rintro D cc xs W hD hxs ⟨rfl, hK, hb1, hb2, hpos⟩ hKD
    have hk2 : Keep (fun _ => False) w W := Keep.trans K0 hK (fun i hi h => by omega)
    have HB1' := Lib.hid hb1
    have HB2' := Lib.hid hb2
    have HKD' := Lib.hid hKD
    have HK2 := Lib.hid hk2
    clear hK hb1 hb2 hKD hk2
    go_wp2_with fail
    generalize W = W1 at *
    have ht : Turns (w.heap.size + 3) W1 (W1.putObj D (.deferred none)) := Turns.put (by omega) HKD' rfl
    refine ⟨by simp, .inl ⟨_, _, rfl, run_takeDeferred HKD', ?_⟩⟩
    have q1' : (W1.putObj D (.deferred none)).cell? ⟨w.heap.size + 1, 0, none⟩ = some (vali (topI L at_)) := (Turns.blk ht HB1').cell 0
    have q2' : (W1.putObj D (.deferred none)).cell? ⟨w.heap.size + 1 + 1, 0, none⟩ = some (.bool true) := (Turns.blk ht HB2').cell 0
    exact ⟨.tuple #[vali (topI L at_), .bool true], by simp [results, Try.results27, go_sem, q1', q2'], by rw [decide_eq_true hpos], Turns.keep ht HK2 (by omega)⟩
def turnN (n at_ : Nat) : Nat := if n ≤ at_ + 1 then 0 else at_ + 1
theorem RingI.redo {w W : World} {B : Nat} {A : Option Addr} {c lim : Nat} {L : List (Int)} {at_ : Nat} (h : RingI w B A c lim L at_) (hk : Keep (fun k => k = B) w W) (j : Nat)
    (hb : Blk W B 62 #[.int .i64 (lim : Int), .slice A L.length c, .int .i64 (j : Int)]) (hj : j < L.length ∨ (L.length = 0 ∧ j = 0)) : RingI W B A c lim L j :=
  ⟨hb, h.tail.keep hk (fun k o hA e => by subst e; exact h.apart o hA), h.one, h.most, h.few, hj⟩
set_option maxRecDepth 100000 in
set_option maxHeartbeats 2000000 in
theorem turnI_does {w : World} {B : Nat} {A : Option Addr} {c lim : Nat} {L : List (Int)} {at_ : Nat} (h : RingI w B A c lim L at_) :
    Calls Try.prog 28 #[.pointer (some ⟨B, 0, none⟩)] w fun e w' => e = .returned (.tuple #[vali (topI L (turnN L.length at_)), .bool (decide (0 < L.length))]) ∧ RingI w' B A c lim L (turnN L.length at_) ∧ Keep (fun k => k = B) w w' := by
  have c2 : w.cell? ⟨B, 2, none⟩ = some (.int .i64 (at_ : Nat)) := h.blk.cell 2
  have f2 := h.blk.frozen 2
  have hat := h.at_
  have hlen : L.length ≤ 64 := Nat.le_trans h.few h.most
  have b1 : Blk (w.setCell ⟨B, 2, none⟩ (.int .i64 ((at_ : Int) + 1))) B 62 #[.int .i64 (lim : Int), .slice A L.length c, .int .i64 ((at_ : Int) + 1)] := h.blk.set_ 2 _
  have d1 : (w.setCell ⟨B, 2, none⟩ (.int .i64 ((at_ : Int) + 1))).cell? ⟨B, 1, none⟩ = some (.slice A L.length c) := b1.cell 1
  have d2 : (w.setCell ⟨B, 2, none⟩ (.int .i64 ((at_ : Int) + 1))).cell? ⟨B, 2, none⟩ = some (.int .i64 ((at_ : Int) + 1)) := b1.cell 2
  have g2 := b1.frozen 2
  have H := Lib.hid h
  have HB1 := Lib.hid b1
  clear h b1
  by_cases hb : L.length ≤ at_ + 1
  · have hb2 : (L.length : Int) ≤ (at_ : Int) + 1 := by omega
    have hn : turnN L.length at_ = 0 := by unfold turnN; rw [if_pos hb]
    rw [hn]
    go_enter Try.func28, Try.ntmps28
    go_wp2_with fail
    go_quiet (fail)
    go_wp2_with fail
    have HK2 : Keep (fun k => k = B) w (((w.setCell ⟨B, 2, none⟩ (.int .i64 ((at_ : Int) + 1))).drewN nq).setCell ⟨B, 2, none⟩ (.int .i64 0)) := (((Keep.refl (fun k => k = B) w).setCell (p := ⟨B, 2, none⟩) (fun _ => rfl) _).drewN nq).setCell (fun _ => rfl) _
    have HR2 : RingI (((w.setCell ⟨B, 2, none⟩ (.int .i64 ((at_ : Int) + 1))).drewN nq).setCell ⟨B, 2, none⟩ (.int .i64 0)) B A c lim L 0 :=
      H.out.redo HK2 0 ((Blk.keep HB1 (Keep.drewN (Keep.refl (fun _ => False) _) nq) (fun h => h)).set_ 2 _) (by omega)
    refine (topI_does HR2).mono ?_
    rintro e w3 ⟨rfl, hk3⟩
    have HK3 : Hid (Keep (fun k => k = B) w w3) := Keep.trans HK2 hk3 (fun _ _ h => h.elim)
    have HR3 := Lib.hid (HR2.keep hk3 (fun _ _ h => h))
    clear hk3 HR2 HK2
    go_wp2_with fail
    refine bodyPost_ret (v := .tuple #[vali (topI L 0), .bool (decide (0 < L.length))]) (by simp [results, Try.results28, go_sem]) rfl ⟨rfl, HR3, HK3⟩
  · have hb2 : ¬ (L.length : Int) ≤ (at_ : Int) + 1 := by omega
    have hn : turnN L.length at_ = at_ + 1 := by unfold turnN; rw [if_neg hb]
    rw [hn]
    go_enter Try.func28, Try.ntmps28
    go_wp2_with fail
    go_quiet (fail)
    go_wp2_with fail
    have HK2 : Keep (fun k => k = B) w ((w.setCell ⟨B, 2, none⟩ (.int .i64 ((at_ : Int) + 1))).drewN nq) := ((Keep.refl (fun k => k = B) w).setCell (p := ⟨B, 2, none⟩) (fun _ => rfl) _).drewN nq
    have HR2 : RingI ((w.setCell ⟨B, 2, none⟩ (.int .i64 ((at_ : Int) + 1))).drewN nq) B A c lim L (at_ + 1) :=
      H.out.redo HK2 (at_ + 1) (Blk.keep HB1 (Keep.drewN (Keep.refl (fun _ => False) _) nq) (fun h => h)) (by omega)
    refine (topI_does HR2).mono ?_
    rintro e w3 ⟨rfl, hk3⟩
    have HK3 : Hid (Keep (fun k => k = B) w w3) := Keep.trans HK2 hk3 (fun _ _ h => h.elim)
    have HR3 := Lib.hid (HR2.keep hk3 (fun _ _ h => h))
    clear hk3 HR2 HK2
    go_wp2_with fail
    refine bodyPost_ret (v := .tuple #[vali (topI L (at_ + 1)), .bool (decide (0 < L.length))]) (by simp [results, Try.results28, go_sem]) rfl ⟨rfl, HR3, HK3⟩
end Go.Proofs.Ytimkbbdncajggaa
