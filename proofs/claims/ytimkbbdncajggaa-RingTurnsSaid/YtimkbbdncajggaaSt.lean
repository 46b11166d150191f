/- stands: a ring is the document's. -/
import Derived.Test.YtimkbbdncajggaaRs
import Derived.Test.YtimkbbdncajggaaFw
namespace Go.Proofs.Ytimkbbdncajggaa
open Go.RowKit Go.BigFrame Go.Shelf
attribute [local go_sem] Oper.semAt_some
def StI (W0 : World) (z : Nat) (L : List ByteArray) (xs : List (Nat × ByteArray)) (W : World) : Prop :=
  Keep (fun k => k = z) W0 W ∧ Blk W z 3 #[.int .i64 (xs.length : Nat)] ∧ SpS L xs
set_option maxRecDepth 100000 in
set_option maxHeartbeats 8000000 in
theorem stands_does {w : World} {B : Nat} {A A' : Option Addr} {c c' lim : Nat} {L : List ByteArray} {at_ : Nat} (h : RingS w B A c lim L at_) (h' : StAt w A' c' L) :
    Calls Try.prog 24 #[.pointer (some ⟨B, 0, none⟩), stV lim A' L.length c' at_] w fun e w' => e = .returned (.bool true) ∧ Keep (fun _ => False) w w' := by
  have H := Lib.hid h
  have H' := Lib.hid h'
  have hlt := h.lt
  have hat := h.at_
  have hlen : L.length ≤ 64 := Nat.le_trans h.few h.most
  clear h h'
  refine (callsIn_wide (n := 1)).1 (callsIn_of_wp_marks Try.func24 rfl trivial ?_ rfl)
  simp only [Try.ntmps24, List.size_toArray, List.length_cons, List.length_nil, Nat.reduceAdd, Nat.reduceSub, Array.replicate_succ, Array.replicate_zero, List.push_toArray, List.append_toArray, List.nil_append, List.cons_append]
  refine wpIn_wide.2 ?_
  go_wp2_with fail
  refine (allS_does B _).mono ?_
  rintro e w2 ⟨rfl, rfl⟩
  go_wp2_with fail
  have k0 : Keep (fun _ => False) w ((((w.alloc (.cells #[.int .i64 (lim : Nat), .slice A' L.length c', .int .i64 (at_ : Nat)] 43)).alloc (.cells #[.bool false] 4)).alloc (.cells #[.int .i64 0] 3)).alloc (.cells #[.pointer (some ⟨B, 0, none⟩)] 32)) := ((((Keep.refl _ w).alloc _).alloc _).alloc _).alloc _
  have z0 : ((((w.alloc (.cells #[.int .i64 (lim : Nat), .slice A' L.length c', .int .i64 (at_ : Nat)] 43)).alloc (.cells #[.bool false] 4)).alloc (.cells #[.int .i64 0] 3)).alloc (.cells #[.pointer (some ⟨B, 0, none⟩)] 32)).heap.size = w.heap.size + 4 := by simp
  have b0 : Blk ((((w.alloc (.cells #[.int .i64 (lim : Nat), .slice A' L.length c', .int .i64 (at_ : Nat)] 43)).alloc (.cells #[.bool false] 4)).alloc (.cells #[.int .i64 0] 3)).alloc (.cells #[.pointer (some ⟨B, 0, none⟩)] 32)) w.heap.size 43 #[.int .i64 (lim : Nat), .slice A' L.length c', .int .i64 (at_ : Nat)] := (((Blk.new w 43 _).alloc _).alloc _).alloc _
  have b1 : Blk ((((w.alloc (.cells #[.int .i64 (lim : Nat), .slice A' L.length c', .int .i64 (at_ : Nat)] 43)).alloc (.cells #[.bool false] 4)).alloc (.cells #[.int .i64 0] 3)).alloc (.cells #[.pointer (some ⟨B, 0, none⟩)] 32)) (w.heap.size + 1) 4 #[.bool false] := by
    have := ((Blk.new (w.alloc (.cells #[.int .i64 (lim : Nat), .slice A' L.length c', .int .i64 (at_ : Nat)] 43)) 4 #[.bool false]).alloc (.cells #[.int .i64 0] 3)).alloc (.cells #[.pointer (some ⟨B, 0, none⟩)] 32)
    rwa [World.size_alloc] at this
  have b2 : Blk ((((w.alloc (.cells #[.int .i64 (lim : Nat), .slice A' L.length c', .int .i64 (at_ : Nat)] 43)).alloc (.cells #[.bool false] 4)).alloc (.cells #[.int .i64 0] 3)).alloc (.cells #[.pointer (some ⟨B, 0, none⟩)] 32)) (w.heap.size + 1 + 1) 3 #[.int .i64 0] := by
    have := (Blk.new ((w.alloc (.cells #[.int .i64 (lim : Nat), .slice A' L.length c', .int .i64 (at_ : Nat)] 43)).alloc (.cells #[.bool false] 4)) 3 #[.int .i64 0]).alloc (.cells #[.pointer (some ⟨B, 0, none⟩)] 32)
    rwa [World.size_alloc, World.size_alloc] at this
  have b3 : Blk ((((w.alloc (.cells #[.int .i64 (lim : Nat), .slice A' L.length c', .int .i64 (at_ : Nat)] 43)).alloc (.cells #[.bool false] 4)).alloc (.cells #[.int .i64 0] 3)).alloc (.cells #[.pointer (some ⟨B, 0, none⟩)] 32)) (w.heap.size + 1 + 1 + 1) 32 #[.pointer (some ⟨B, 0, none⟩)] := by
    have := Blk.new (((w.alloc (.cells #[.int .i64 (lim : Nat), .slice A' L.length c', .int .i64 (at_ : Nat)] 43)).alloc (.cells #[.bool false] 4)).alloc (.cells #[.int .i64 0] 3)) 32 #[.pointer (some ⟨B, 0, none⟩)]
    rwa [World.size_alloc, World.size_alloc, World.size_alloc] at this
  generalize ((((w.alloc (.cells #[.int .i64 (lim : Nat), .slice A' L.length c', .int .i64 (at_ : Nat)] 43)).alloc (.cells #[.bool false] 4)).alloc (.cells #[.int .i64 0] 3)).alloc (.cells #[.pointer (some ⟨B, 0, none⟩)] 32)) = W0 at *
  have HR0 := Lib.hid (H.out.keep k0 (fun _ _ h => h))
  have HS0 := Lib.hid (H'.out.keep k0)
  have B0 := Lib.hid b0
  have B1 := Lib.hid b1
  have K0 := Lib.hid k0
  have hsB := hlt B (.inl rfl)
  have HLT := Lib.hid hlt
  clear b0 b1 k0 hlt
  refine wp_range (gf := 33) (lb := #[.pointer (some ⟨w.heap.size + 1 + 1 + 1, 0, none⟩)]) (T := fun k => k = w.heap.size + 1 + 1) rfl (enters_of Try.func33 (by kernel_rfl) rfl)
    (all1S_gives _ HR0 b3 (by omega) (fun k hf => by have := HLT.out k hf; omega)) (fun _ => rfl) (by omega) (by omega) (StI W0 (w.heap.size + 1 + 1) L) (fun _ _ _ => False)
    (fun xs X Y h ht => ⟨Turns.keep ht h.1 (Nat.le_refl _), Turns.blk ht h.2.1, h.2.2⟩) (fun _ _ _ _ h _ => h) (fun pre x X Y h _ => h) ⟨Keep.refl _ _, b2, by simp [SpS]⟩
    (fun x => { tmps := #[.pointer (some ⟨B, 0, none⟩), stV lim A' L.length c' at_, undef, .pointer (some ⟨w.heap.size, 0, none⟩), .pointer (some ⟨w.heap.size + 1, 0, none⟩), .pointer (some ⟨w.heap.size + 1 + 1, 0, none⟩), .int .i64 (x.1 : Nat), vals x.2, undef, undef, undef, undef, .pointer (some ⟨B, 0, none⟩), .func (.func 33) #[] #[.pointer (some ⟨w.heap.size + 1 + 1 + 1, 0, none⟩)], .int .i64 (x.1 : Nat), vals x.2, undef, undef, undef, undef, undef, undef, undef, undef, undef, undef, undef, undef, undef, undef, undef, undef, undef, undef, undef, undef, undef, undef, undef, undef, undef, undef, undef, undef, undef, undef, undef, undef, undef, undef, undef, undef, undef, undef, undef, undef, undef, undef, undef, undef, undef, undef, undef, undef, undef, undef, undef, undef], defers := [] }) ?assign ?body ?done ?stop
  case assign =>
    intro m x W K hK
    gi_wp2
    exact hK
  case stop =>
    rintro D cc pre W _ _ h _
    exact h.elim
  case body =>
    rintro m pre x W ⟨hK, hbn, hSp⟩ ⟨hx1, hx2⟩ hlt
    obtain ⟨x1, x2⟩ := x
    simp only at hx1 hx2
    subst hx1
    have hpl := (List.getElem?_eq_some_iff.1 hx2).1
    have hKf : Keep (fun _ => False) w W := Keep.trans K0 hK (fun i hi h => by omega)
    obtain ⟨g, o, rfl, hcell⟩ := (H'.out.keep hKf).reads pre.length (vals x2) (by rw [List.getElem?_map, hx2]; rfl)
    have q1 : W.cell? ⟨w.heap.size, 1, none⟩ = some (.slice (some ⟨g, o, none⟩) L.length c') := (Blk.keep B0 hK (by omega)).cell 1
    have q5 : W.cell? ⟨w.heap.size + 1 + 1, 0, none⟩ = some (.int .i64 (pre.length : Nat)) := hbn.cell 0
    have f5 := hbn.frozen 0
    have j0 : (0 : Int) ≤ (pre.length : Int) := by omega
    have j1 : (pre.length : Int) < (L.length : Int) := by omega
    have j2 : ¬ L.length ≤ pre.length := by omega
    have j3 : ¬ (L.length : Int) ≤ (pre.length : Int) := by omega
    have HKb := Lib.hid hK
    have HBN := Lib.hid hbn
    have HSN := Lib.hid (hSp.next (x := (pre.length, x2)) hx2)
    clear hK hbn hSp hx2 hKf
    gi_wp2_with fail
    have hk2 : Keep (fun k => k = w.heap.size + 1 + 1) W (W.setCell ⟨w.heap.size + 1 + 1, 0, none⟩ (.int .i64 ((pre.length : Int) + 1))) := (Keep.refl (fun k => k = w.heap.size + 1 + 1) W).setCell (p := ⟨w.heap.size + 1 + 1, 0, none⟩) (fun _ => rfl) _
    refine ⟨hk2, Keep.trans HKb hk2 (fun _ _ h => h), ?_, HSN⟩
    rw [List.length_append]
    exact HBN.out.set_ 0 _
  case done =>
    rintro D xs W hD hxs ⟨hK, hbn, _⟩ hKD
    have hxl : xs.length = L.length := by rw [← hxs]; simp
    rw [hxl] at hbn
    have hDl := (Array.getElem?_eq_some_iff.1 hKD).1
    have HKW : Hid (Keep (fun _ => False) w W) := Keep.trans K0 hK (fun i hi h => by omega)
    have hb1 := Blk.keep B1 hK (by omega)
    have hb0 := Blk.keep B0 hK (by omega)
    have HKD := Lib.hid hKD
    have HBN := Lib.hid hbn
    have HB1 := Lib.hid hb1
    have HB0 := Lib.hid hb0
    have HR := Lib.hid (HR0.out.keep hK (fun k hf h => by have := HLT.out k hf; omega))
    clear hK hbn hKD hb1 hb0 hxs
    go_wp2_with fail
    refine (topS_does HR).mono ?_
    rintro e w4 ⟨rfl, hk4⟩
    have q3 : w4.cell? ⟨w.heap.size, 0, none⟩ = some (.int .i64 (lim : Nat)) := (Blk.keep HB0 hk4 (fun h => h)).cell 0
    have q4 : w4.cell? ⟨w.heap.size, 1, none⟩ = some (.slice A' L.length c') := (Blk.keep HB0 hk4 (fun h => h)).cell 1
    have q5 : w4.cell? ⟨w.heap.size, 2, none⟩ = some (.int .i64 (at_ : Nat)) := (Blk.keep HB0 hk4 (fun h => h)).cell 2
    have HK4 := Lib.hid hk4
    clear hk4
    go_wp2_with fail
    refine (refTop_does (H'.out.keep (Keep.trans HKW HK4 (fun _ _ h => h))) hat hlen).mono ?_
    rintro e w5 ⟨rfl, hk5⟩
    have hW5 : Keep (fun _ => False) W w5 := Keep.trans HK4 hk5 (fun _ _ h => h)
    have HR5 := Lib.hid (HR.out.keep hW5 (fun _ _ h => h))
    have hB5 := Blk.keep HB1 hW5 (fun h => h)
    have p4 : w5.cell? ⟨w.heap.size, 1, none⟩ = some (.slice A' L.length c') := (Blk.keep HB0 hW5 (fun h => h)).cell 1
    have p5 : w5.cell? ⟨w.heap.size + 1 + 1, 0, none⟩ = some (.int .i64 (L.length : Nat)) := (Blk.keep HBN hW5 (fun h => h)).cell 0
    have f5 := hB5.frozen 0
    have e5 : w5.cell? ⟨w.heap.size + 1, 0, none⟩ = some (.bool false) := hB5.cell 0
    have hKD5 : w5.heap[D]? = some (.deferred (some [])) := (hW5.block D hDl (fun h => h)).trans HKD
    have hK5 : Keep (fun _ => False) w (w5.drew.setCell ⟨w.heap.size + 1, 0, none⟩ (.bool true)) := (Keep.trans HKW hW5 (fun _ _ h => h)).drew.setCell (fun h => absurd h (by simp)) _
    have hB6 : Blk (w5.drew.setCell ⟨w.heap.size + 1, 0, none⟩ (.bool true)) (w.heap.size + 1) 4 #[.bool true] := hB5.drew.set_ 0 _
    have hKD6 : (w5.drew.setCell ⟨w.heap.size + 1, 0, none⟩ (.bool true)).heap[D]? = some (.deferred (some [])) := (Below.heap_setCell w5.drew ⟨w.heap.size + 1, 0, none⟩ (.bool true) D (by simp; omega)).trans hKD5
    have HLEN : Calls Try.prog 19 #[.pointer (some ⟨B, 0, none⟩)] w5.drew fun e w' => e = .returned (.int .i64 (L.length : Nat)) ∧ w' = w5.drew := lenS_does (HR5.out.keep (Keep.drew (Keep.refl (fun _ => False) w5)) (fun _ _ h => h))
    have HK5 := Lib.hid hK5
    have HB6 := Lib.hid hB6
    have HKD6 := Lib.hid hKD6
    clear hk5 hB5 hKD5 hK5 hB6 hKD6 HKD HKW hW5 HK4 q3 q4 q5
    generalize topS L at_ = tv at *
    generalize decide (0 < L.length) = tb at *
    go_wp2_with fail
    refine region_tail 21 (by kernel_rfl) (by kernel_rfl) ?_
    simp only [List.take, List.drop]
    repeat (first | go_big_quiet_step (fail) | (go_big_quiet_want; go_big_quiet_op; refine ⟨_, HLEN, ?_⟩; go_big_quiet_on))
    refine wpQuiet_nil ?_
    go_wp2_with fail
    have ht : Turns (w.heap.size + 3) (w5.drew.setCell ⟨w.heap.size + 1, 0, none⟩ (.bool true)) ((w5.drew.setCell ⟨w.heap.size + 1, 0, none⟩ (.bool true)).putObj D (.deferred none)) := Turns.put (by omega) HKD6.out rfl
    have q1' : ((w5.drew.setCell ⟨w.heap.size + 1, 0, none⟩ (.bool true)).putObj D (.deferred none)).cell? ⟨w.heap.size + 1, 0, none⟩ = some (.bool true) := (Turns.blk ht HB6).cell 0
    have q2' : ((w5.setCell ⟨w.heap.size + 1, 0, none⟩ (.bool true)).drew.putObj D (.deferred none)).cell? ⟨w.heap.size + 1, 0, none⟩ = some (.bool true) := q1'
    refine ⟨by simp, .inl ⟨_, _, rfl, run_takeDeferred HKD6, ?_⟩⟩
    exact ⟨.bool true, by simp [results, Try.results24, go_sem, q2'], rfl, Turns.keep ht HK5 (by omega)⟩
end Go.Proofs.Ytimkbbdncajggaa
