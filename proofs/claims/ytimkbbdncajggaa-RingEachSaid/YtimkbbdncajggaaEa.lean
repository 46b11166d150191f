/- RingEach walked. -/
import Derived.Test.YtimkbbdncajggaaAl
import Derived.Test.YtimkbbdncajggaaMi
namespace Go.Proofs.Ytimkbbdncajggaa
open Go.RowKit Go.BigFrame Go.Shelf
attribute [local go_sem] Oper.semAt_some
/-- A post that no panic reaches: what is behind need not be looked at. -/
theorem wp_calm {P : Program} {c : Code} {K : Act → World → Prop} {Q : Exit → Act → World → Prop} {a : Act} {w : World} (h : c.wp P (Exit.then K (fun _ _ _ => False)) a w) : c.wp P (Exit.then K Q) a w := by
  refine wp_mono h ?_
  intro e a' w' h
  cases e with
  | normal => exact h
  | _ => exact h.elim
set_option maxRecDepth 100000 in
set_option maxHeartbeats 8000000 in
theorem each_any (A : Option Addr) (c : Nat) (l : List Op) (limit most : Int) (w : World) (h : OpsAt w A l) (hn : l.length * 24 ≤ 140737488351232) (hbig : ∀ o ∈ l, o.s.size ≤ bigM) :
    Calls Try.prog 7 #[.int .i64 limit, .slice A l.length c, .int .i64 most] w fun e w' => e = .returned (.bool true) ∧ Keep (fun _ => False) w w' := by
  have hb1 := (clampN_bd limit).1
  have hb2 := (clampN_bd limit).2.1
  have HO := Lib.hid (h.keep ((Keep.refl (fun _ => False) w).alloc (.cells #[.int .i64 most] 3)))
  have b0 : Blk (w.alloc (.cells #[.int .i64 most] 3)) w.heap.size 3 #[.int .i64 most] := Blk.new w 3 _
  have kA : Keep (fun _ => False) w (w.alloc (.cells #[.int .i64 most] 3)) := (Keep.refl _ w).alloc _
  have zA : (w.alloc (.cells #[.int .i64 most] 3)).heap.size = w.heap.size + 1 := by simp
  clear h
  refine (callsIn_wide (n := 1)).1 (callsIn_of_wp_marks Try.func7 rfl trivial ?_ rfl)
  simp only [Try.ntmps7, List.size_toArray, List.length_cons, List.length_nil, Nat.reduceAdd, Nat.reduceSub, Array.replicate_succ, Array.replicate_zero, List.push_toArray, List.append_toArray, List.nil_append, List.cons_append]
  refine wpIn_wide.2 ?_
  go_wp2_with fail
  generalize w.alloc (.cells #[.int .i64 most] 3) = w1 at *
  have HKA := Lib.hid kA
  have HB0 := Lib.hid b0
  clear kA b0
  refine (few_any A c l w1 HO hn).mono ?_
  rintro e w2 ⟨fb, rfl, hfb, hk⟩
  have HK2 := Lib.hid hk
  clear hk
  cases fb with
  | false =>
    go_wp2_with fail
    refine (alive_does _).mono ?_
    rintro e w3 ⟨rfl, hk3⟩
    have HK3 : Hid (Keep (fun _ => False) w w3) := Keep.trans HKA (Keep.trans HK2 hk3 (fun _ _ h => h)) (fun _ _ h => h)
    clear hk3
    go_wp2_with fail
    exact ⟨.bool true, by simp [results, Try.results7, go_sem], rfl, HK3⟩
  | true =>
    have hll := hfb rfl
    clear hfb
    go_wp2_with fail
    refine (newS_does limit w2).mono ?_
    rintro e w3 ⟨rfl, hR, hk3⟩
    have HR3 := Lib.hid hR
    have HK3 : Hid (Keep (fun _ => False) w1 w3) := Keep.trans HK2 hk3 (fun _ _ h => h)
    have hs2 := HK2.out.size
    clear hk3 hR
    go_wp2_with fail
    refine (refNew_does limit w3).mono ?_
    rintro e w4 ⟨rfl, hk4⟩
    have HR4 := Lib.hid (HR3.out.keep hk4 (fun _ _ h => h))
    have HK4 : Hid (Keep (fun _ => False) w1 w4) := Keep.trans HK3 hk4 (fun _ _ h => h)
    clear hk4 HR3
    go_wp2_with fail
    have b6 : Blk (w4.alloc (.cells #[.int .i64 (clampN limit : Nat), .slice none 0 0, .int .i64 0] 43)) w4.heap.size 43 #[.int .i64 (clampN limit : Nat), .slice none 0 0, .int .i64 0] := Blk.new w4 43 _
    have k46 : Keep (fun _ => False) w4 (w4.alloc (.cells #[.int .i64 (clampN limit : Nat), .slice none 0 0, .int .i64 0] 43)) := (Keep.refl _ w4).alloc _
    generalize w4.alloc (.cells #[.int .i64 (clampN limit : Nat), .slice none 0 0, .int .i64 0] 43) = w6 at *
    have hlt4 := HR4.out.blk.lt
    have HR6 := Lib.hid (HR4.out.keep k46 (fun _ _ h => h))
    have HK6 : Hid (Keep (fun _ => False) w1 w6) := Keep.trans HK4 k46 (fun _ _ h => h)
    have HB6 := Lib.hid b6
    have hs4 := HK4.out.size
    clear HR4 k46 b6
    generalize hS : w4.heap.size = S at *
    go_loopw [7, 25] (fun p i wr => ∃ (k B : Nat) (A' : Option Addr) (c' : Nat) (A2 : Option Addr) (c2 : Nat), k ≤ l.length ∧ p = .pointer (some ⟨B, 0, none⟩) ∧ i = .int .i64 (k : Nat) ∧ RingS wr B A' c' (clampN limit) (runR (clampN limit) (l.take k)).1 (runR (clampN limit) (l.take k)).2 ∧ Blk wr S 43 #[.int .i64 (clampN limit : Nat), .slice A2 (runR (clampN limit) (l.take k)).1.length c2, .int .i64 ((runR (clampN limit) (l.take k)).2 : Nat)] ∧ StAt wr A2 c2 (runR (clampN limit) (l.take k)).1 ∧ Keep (fun _ => False) w1 wr ∧ (∀ j, Foot B A' j → w1.heap.size ≤ j ∧ j ≠ S) ∧ (∀ g o, A2 = some ⟨g, o, none⟩ → ¬ Foot B A' g ∧ g < wr.heap.size ∧ g ≠ S)) (fun _ i _ => l.length - (intOf i).toNat)
    case atStart => exact ⟨0, w2.heap.size, none, 0, none, 0, by omega, rfl, rfl, by simpa [runR] using HR6.out, by simpa [runR] using HB6.out, ⟨fun i u hu => by simp [runR] at hu, by simp [runR], by omega, fun _ => by simp [runR]⟩, HK6, (by rintro j (rfl | ⟨o, hh⟩) <;> first | exact ⟨hs2, by omega⟩ | cases hh), fun g o h => by cases h⟩
    case round =>
      clear HR6 HB6 HK6 HK4 HK3 HK2 hs2 hlt4
      obtain ⟨k, B, A', c', A2, c2, hk, rfl, rfl, hR, hB, hSt, hK, hft, hsep⟩ := hrel
      have HSEP := Lib.hid hsep
      have HR := Lib.hid hR
      have HB := Lib.hid hB
      have HSt := Lib.hid hSt
      have HK := Lib.hid hK
      have HFT := Lib.hid hft
      clear hR hB hSt hK hft hsep
      by_cases hkl : k < l.length
      · obtain ⟨x, hx⟩ : ∃ x, l[k]? = some x := ⟨_, List.getElem?_eq_getElem hkl⟩
        obtain ⟨bo, oo, rfl, hbo, h0, h1, hsz⟩ := (HO.out.keep HK.out) k x hx
        have hk0 : (0 : Int) ≤ (k : Int) := by omega
        have hk1 : (k : Int) < (l.length : Int) := by omega
        have HX := Lib.hid hx
        clear hx
        have hrs := runR_snoc (lim := clampN limit) HX.out
        have hsize := runR_size (clampN limit) l hbig k hk
        have hxb := hbig x (List.mem_of_getElem? HX.out)
        have hsum : ∀ y ∈ (runR (clampN limit) (l.take k)).1, y.size + x.s.size ≤ 9223372036854775807 := fun y hy => by
          have h8 := hsize y hy
          have h7 : k * bigM ≤ 200 * bigM := Nat.mul_le_mul_right _ (by omega)
          unfold bigM at *
          omega
        have HRS := Lib.hid hrs
        have HSUM := Lib.hid hsum
        clear hrs hsize hsum
        generalize hst : runR (clampN limit) (l.take k) = st at *
        obtain ⟨L, at_⟩ := st
        dsimp only at *
        go_wp2_with fail
        have hkA : Keep (fun _ => False) wr (wr.alloc (.cells #[.int .i64 x.kind, .string x.s] 46)) := (Keep.refl _ wr).alloc _
        have hbx : Blk (wr.alloc (.cells #[.int .i64 x.kind, .string x.s] 46)) wr.heap.size 46 #[.int .i64 x.kind, .string x.s] := Blk.new wr 46 _
        have hz8 : (wr.alloc (.cells #[.int .i64 x.kind, .string x.s] 46)).heap.size = wr.heap.size + 1 := by simp
        generalize wr.alloc (.cells #[.int .i64 x.kind, .string x.s] 46) = W8 at *
        have HR8 := Lib.hid (HR.out.keep hkA (fun _ _ h => h))
        have hB8 := HB.out.keep hkA (fun h => h)
        have HSt8 := Lib.hid (HSt.out.keep hkA)
        have HK8 : Hid (Keep (fun _ => False) w1 W8) := Keep.trans HK hkA (fun _ _ h => h)
        have hflt := HR.out.lt
        have o0 : W8.cell? ⟨wr.heap.size, 0, none⟩ = some (.int .i64 x.kind) := hbx.cell 0
        have o1 : W8.cell? ⟨wr.heap.size, 1, none⟩ = some (.string x.s) := hbx.cell 1
        have s0 : W8.cell? ⟨S, 0, none⟩ = some (.int .i64 (clampN limit : Nat)) := hB8.cell 0
        have s1 : W8.cell? ⟨S, 1, none⟩ = some (.slice A2 L.length c2) := hB8.cell 1
        have s2 : W8.cell? ⟨S, 2, none⟩ = some (.int .i64 (at_ : Nat)) := hB8.cell 2
        have HB8 := Lib.hid hB8
        have HBX := Lib.hid hbx
        have HFLT := Lib.hid hflt
        have hSl := HB.out.lt
        clear hkA hB8 hbx hflt HR HB HSt HK
        refine wp_calm ?_
        go_region_with ((first
          | (go_at_call 22; refine (does_does x (HR8.out.keep (Keep.drew (Keep.refl (fun _ => False) _)) (fun _ _ h => h)) HSUM.out).mono ?_; rintro e w5 ⟨B5, A5, c5, rfl, hR5, hk5, hft5⟩; have hb5 := (HB8.out.drew).keep hk5 (fun h => (HFT.out _ h).2 rfl); have hx5 := (HBX.out.drew).keep hk5 (fun h => by have := HFLT.out _ h; omega); have o0 : w5.cell? ⟨wr.heap.size, 0, none⟩ = some (.int .i64 x.kind) := hx5.cell 0; have o1 : w5.cell? ⟨wr.heap.size, 1, none⟩ = some (.string x.s) := hx5.cell 1; have s0 : w5.cell? ⟨S, 0, none⟩ = some (.int .i64 (clampN limit : Nat)) := hb5.cell 0; have s1 : w5.cell? ⟨S, 1, none⟩ = some (.slice A2 L.length c2) := hb5.cell 1; have s2 : w5.cell? ⟨S, 2, none⟩ = some (.int .i64 (at_ : Nat)) := hb5.cell 2; have HB5 := Lib.hid hb5; have HR5 := Lib.hid hR5; have HK5 := Lib.hid hk5; have HFT5 := Lib.hid hft5; clear hb5 hx5 hR5 hk5 hft5)
          | (go_at_call 23; refine (refDo_does x (HSt8.out.keepS (Keep.trans ((Keep.refl (Foot B A') W8).drew) HK5.out (fun _ _ h => h)) (fun g o h => (HSEP.out g o h).1)) HR8.out.few HR8.out.most HR8.out.one HR8.out.at_ HSUM.out).mono ?_; rintro e w7 ⟨A7, c7, rfl, hS7, hk7, hsep7⟩; have hb7 := HB5.out.keep hk7 (fun h => h); have s0 : w7.cell? ⟨S, 0, none⟩ = some (.int .i64 (clampN limit : Nat)) := hb7.cell 0; have s1 : w7.cell? ⟨S, 1, none⟩ = some (.slice A2 L.length c2) := hb7.cell 1; have s2 : w7.cell? ⟨S, 2, none⟩ = some (.int .i64 (at_ : Nat)) := hb7.cell 2; have t0 := hb7.frozen 0; have t1 := hb7.frozen 1; have t2 := hb7.frozen 2; have HB7 := Lib.hid hb7; have HS7 := Lib.hid hS7; have HK7 := Lib.hid hk7; have HSEP7 := Lib.hid hsep7; clear hb7 hS7 hk7 hsep7)))
        all_goals
          generalize hst2 : stepR (clampN limit) L at_ x = r at *
          obtain ⟨L', at'⟩ := r
          dsimp only at *
          have hb9 : Blk (((w7.setCell ⟨S, 0, none⟩ (.int .i64 (clampN limit : Nat))).setCell ⟨S, 1, none⟩ (.slice A7 L'.length c7)).setCell ⟨S, 2, none⟩ (.int .i64 (at' : Nat))) S 43 #[.int .i64 (clampN limit : Nat), .slice A7 L'.length c7, .int .i64 (at' : Nat)] := ((HB7.out.set_ 0 _).set_ 1 _).set_ 2 _
          have hk9 : Keep (fun k => k = S) w7 (((w7.setCell ⟨S, 0, none⟩ (.int .i64 (clampN limit : Nat))).setCell ⟨S, 1, none⟩ (.slice A7 L'.length c7)).setCell ⟨S, 2, none⟩ (.int .i64 (at' : Nat))) := (((Keep.refl (fun k => k = S) w7).setCell (p := ⟨S, 0, none⟩) (fun _ => rfl) _).setCell (p := ⟨S, 1, none⟩) (fun _ => rfl) _).setCell (p := ⟨S, 2, none⟩) (fun _ => rfl) _
          generalize (((w7.setCell ⟨S, 0, none⟩ (.int .i64 (clampN limit : Nat))).setCell ⟨S, 1, none⟩ (.slice A7 L'.length c7)).setCell ⟨S, 2, none⟩ (.int .i64 (at' : Nat))) = W9 at *
          have hz8d : W8.drew.heap.size = W8.heap.size := rfl
          have hs57 := HK5.out.size
          have hs79 := hk9.size
          have hs77 := HK7.out.size
          have hft9 : ∀ j, Foot B5 A5 j → w1.heap.size ≤ j ∧ j ≠ S := fun j h => (HFT5.out j h).elim (HFT.out j) (fun h => ⟨by omega, by omega⟩)
          have hsep9 : ∀ g o, A7 = some ⟨g, o, none⟩ → ¬ Foot B5 A5 g ∧ g < W9.heap.size ∧ g ≠ S := by
            intro g o hA
            rcases HSEP7.out g o hA with ⟨o', hA2⟩ | ⟨h1, h2⟩
            · obtain ⟨e1, e2, e3⟩ := HSEP.out g o' hA2
              exact ⟨fun hf => (HFT5.out g hf).elim e1 (fun h => by omega), by omega, e3⟩
            · exact ⟨fun hf => by have := HR5.out.lt g hf; omega, by omega, by omega⟩
          have HR9 := Lib.hid ((HR5.out.keep HK7 (fun _ _ h => h)).keep hk9 (fun j hf h => (hft9 j hf).2 h))
          have HS9 := Lib.hid (HS7.out.keepS hk9 (fun g o hA e => (hsep9 g o hA).2.2 e))
          have HK9 : Hid (Keep (fun _ => False) w1 W9) := Keep.trans (Keep.trans (Keep.trans HK8.out.drew HK5 (fun i hi h => by have := (HFT.out i h).1; omega)) HK7 (fun _ _ h => h)) hk9 (fun i hi h => by omega)
          have HB9 := Lib.hid hb9
          have t0 : W9.cell? ⟨S, 0, none⟩ = some (.int .i64 (clampN limit : Nat)) := hb9.cell 0
          have t1 : W9.cell? ⟨S, 1, none⟩ = some (.slice A7 L'.length c7) := hb9.cell 1
          have t2 : W9.cell? ⟨S, 2, none⟩ = some (.int .i64 (at' : Nat)) := hb9.cell 2
          have HFT9 := Lib.hid hft9
          have HSEP9 := Lib.hid hsep9
          clear hb9 hk9 hft9 hsep9 HR5 HK5 HFT5 HB5 HB7 HS7 HK7 HSEP7
          go_wp2_with fail
          refine ⟨⟨k + 1, B5, A5, c5, A7, c7, by omega, rfl, by push_cast; rfl, ?_, ?_, ?_, HK9, HFT9, HSEP9⟩, by simp [intOf]; omega⟩
          · rw [HRS.out]; exact HR9
          · rw [HRS.out]; exact HB9
          · rw [HRS.out]; exact HS9
      · have : k = l.length := by omega
        subst this
        rw [List.take_length] at HR HB HSt
        have hSl := HB.out.lt
        have hBl := HR.out.lt
        generalize hst : runR (clampN limit) l = st at *
        obtain ⟨L, at_⟩ := st
        dsimp only at *
        go_wp2_with fail
        refine (allS_does _ _).mono ?_
        rintro e w5 ⟨rfl, rfl⟩
        go_wp2_with fail
        have kW : Keep (fun _ => False) wr ((wr.alloc (.cells #[.int .i64 0] 3)).alloc (.cells #[.pointer (some ⟨B, 0, none⟩)] 32)) := ((Keep.refl _ wr).alloc _).alloc _
        have zW : ((wr.alloc (.cells #[.int .i64 0] 3)).alloc (.cells #[.pointer (some ⟨B, 0, none⟩)] 32)).heap.size = wr.heap.size + 2 := by simp
        have bN : Blk ((wr.alloc (.cells #[.int .i64 0] 3)).alloc (.cells #[.pointer (some ⟨B, 0, none⟩)] 32)) wr.heap.size 3 #[.int .i64 0] := (Blk.new wr 3 _).alloc _
        have bA : Blk ((wr.alloc (.cells #[.int .i64 0] 3)).alloc (.cells #[.pointer (some ⟨B, 0, none⟩)] 32)) (wr.heap.size + 1) 32 #[.pointer (some ⟨B, 0, none⟩)] := by
          have := Blk.new (wr.alloc (.cells #[.int .i64 0] 3)) 32 #[.pointer (some ⟨B, 0, none⟩)]
          rwa [World.size_alloc] at this
        generalize ((wr.alloc (.cells #[.int .i64 0] 3)).alloc (.cells #[.pointer (some ⟨B, 0, none⟩)] 32)) = W0 at *
        have HR0 := Lib.hid (HR.out.keep kW (fun _ _ h => h))
        have HK0 : Hid (Keep (fun _ => False) w1 W0) := Keep.trans HK kW (fun _ _ h => h)
        have HBS := Lib.hid (HB.out.keep kW (fun h => h))
        have HSt0 := Lib.hid (HSt.out.keep kW)
        have HBM := Lib.hid (HB0.out.keep HK0 (fun h => h))
        have HBLT := Lib.hid hBl
        have hk1 := HK.out.size
        have hsepw : ∀ g o, A2 = some ⟨g, o, none⟩ → g < wr.heap.size := fun g o hA => (HSEP.out g o hA).2.1
        have HSEPW := Lib.hid hsepw
        clear hBl kW HR HK HB HSt HB0 HSEP HFT hsepw
        refine' wp_range (gf := 33) (lb := #[.pointer (some ⟨wr.heap.size + 1, 0, none⟩)]) (T := fun k => k = wr.heap.size) rfl (enters_of Try.func33 (by kernel_rfl) rfl)
          (all1S_gives _ HR0 bA (by omega) (fun k hf => by have := HBLT.out k hf; omega)) (fun _ => rfl) (by omega) (by omega)
          (fun xs W => StI W0 wr.heap.size L xs W ∧ (1 ≤ most → (xs.length : Int) < most)) (fun c xs W => c = .exit 2 ∧ StI W0 wr.heap.size L xs W ∧ (xs.length : Int) = most ∧ xs ≠ [])
          (fun xs X Y h ht => ⟨⟨Turns.keep ht h.1.1 (Nat.le_refl _), Turns.blk ht h.1.2.1, h.1.2.2⟩, h.2⟩) (fun cc xs X Y h ht => ⟨h.1, ⟨Turns.keep ht h.2.1.1 (Nat.le_refl _), Turns.blk ht h.2.1.2.1, h.2.1.2.2⟩, h.2.2⟩)
          (fun pre x X Y h _ => h) ⟨⟨Keep.refl _ _, bN, by simp [SpS]⟩, fun h => by simp; omega⟩ _ ?assign ?body ?done ?stop
        case assign =>
          intro m x W K hK
          gi_wp2
          exact hK
        case body =>
          rintro m pre x W ⟨⟨hK, hbn, hSp⟩, hmost⟩ ⟨hx1, hx2⟩ hlt
          obtain ⟨x1, x2⟩ := x
          simp only at hx1 hx2
          subst hx1
          have hpl := (List.getElem?_eq_some_iff.1 hx2).1
          have q5 : W.cell? ⟨w.heap.size, 0, none⟩ = some (.int .i64 most) := (Blk.keep HBM hK (by omega)).cell 0
          have q11 : W.cell? ⟨wr.heap.size, 0, none⟩ = some (.int .i64 (pre.length : Nat)) := hbn.cell 0
          have f11 := hbn.frozen 0
          have hL64 : L.length ≤ 64 := Nat.le_trans HR0.out.few HR0.out.most
          have HKb := Lib.hid hK
          have HBN := Lib.hid hbn
          have HSPN := Lib.hid (hSp.next (x := (pre.length, x2)) hx2)
          have FIN : Hid (Keep (fun k => k = wr.heap.size) W (W.setCell ⟨wr.heap.size, 0, none⟩ (.int .i64 ((pre.length : Int) + 1))) ∧ StI W0 wr.heap.size L (pre ++ [(pre.length, x2)]) (W.setCell ⟨wr.heap.size, 0, none⟩ (.int .i64 ((pre.length : Int) + 1)))) := by
            have hk : Keep (fun k => k = wr.heap.size) W (W.setCell ⟨wr.heap.size, 0, none⟩ (.int .i64 ((pre.length : Int) + 1))) := (Keep.refl (fun k => k = wr.heap.size) W).setCell (p := ⟨wr.heap.size, 0, none⟩) (fun _ => rfl) _
            refine ⟨hk, Keep.trans HKb hk (fun _ _ h => h), ?_, HSPN⟩
            have := Blk.set_ hbn 0 (.int .i64 ((pre.length : Int) + 1))
            rw [List.length_append]
            exact this
          have HMO := Lib.hid hmost
          clear hK hbn hSp hx2 hmost
          by_cases hm1 : (pre.length : Int) + 1 = most
          · gi_wp2_with fail
            have e := FIN.out
            rw [hm1] at e
            exact ⟨e.1, rfl, e.2, by simp; omega, by simp⟩
          · gi_wp2_with fail
            refine ⟨FIN.out.1, FIN.out.2, fun h => ?_⟩
            have := HMO.out h
            simp
            omega
        case' done =>
          rintro D xs W hD hxs ⟨⟨hK, hbn, hSp⟩, hmost⟩ hKD
          have hN : (1 ≤ most → (xs.length : Int) = min (L.length : Int) most) ∧ (¬ 1 ≤ most → (xs.length : Int) = (L.length : Int)) := by
            have hl : xs.length = L.length := by rw [← hxs]; simp
            constructor
            · intro h
              have := hmost h
              omega
            · intro _
              omega
          clear hxs hmost
        case' stop =>
          rintro D cc xs W hD hxs ⟨rfl, ⟨hK, hbn, hSp⟩, hmost, hne⟩ hKD
          have hN : (1 ≤ most → (xs.length : Int) = min (L.length : Int) most) ∧ (¬ 1 ≤ most → (xs.length : Int) = (L.length : Int)) := by
            have hl := hxs.2
            have hp := List.length_pos_iff.2 hne
            constructor
            · intro h
              omega
            · intro h
              omega
          clear hxs hmost hne
        all_goals
          have q5 : W.cell? ⟨w.heap.size, 0, none⟩ = some (.int .i64 most) := (Blk.keep HBM hK (by omega)).cell 0
          have s1 : W.cell? ⟨S, 1, none⟩ = some (.slice A2 L.length c2) := (Blk.keep HBS hK (by omega)).cell 1
          have hDl := (Array.getElem?_eq_some_iff.1 hKD).1
          have HRW := Lib.hid (HR0.out.keep hK (fun k hf h => by have := HBLT.out k hf; omega))
          have HBW := Lib.hid (Blk.keep HBS hK (by omega))
          have HSW := Lib.hid (HSt0.out.keepS hK (fun g o hA h => by have := HSEPW.out g o hA; omega))
          have HBNW := Lib.hid hbn
          have HKW : Hid (Keep (fun _ => False) w1 W) := Keep.trans HK0 hK (fun i hi h => by omega)
          have HKD := Lib.hid hKD
          clear hK hbn hSp hKD
          generalize hxl : xs.length = N at *
          clear hxl
          by_cases hm1 : 1 ≤ most
          all_goals
            have hN1 : (N : Int) = if 1 ≤ most then min (L.length : Int) most else (L.length : Int) := by
              first | rw [if_pos hm1] | rw [if_neg hm1]
              first | exact hN.1 hm1 | exact hN.2 hm1
            first | rw [if_pos hm1] at hN1 | rw [if_neg hm1] at hN1
            go_wp2_with (first | (with_reducible refine wpList_it ?_; refine wpList_min_one rfl _ _ _ rfl _ _ rfl rfl ?_) | (with_reducible refine wpList_it ?_; refine wpList_max_one rfl _ _ _ rfl _ _ rfl rfl ?_))
            refine (alive_does _).mono ?_
            rintro e w5 ⟨rfl, hk5⟩
            have q11 : w5.cell? ⟨wr.heap.size, 0, none⟩ = some (.int .i64 (N : Nat)) := (Blk.keep HBNW hk5 (fun h => h)).cell 0
            have hb5 := Blk.keep HBW hk5 (fun h => h)
            have t0 : w5.cell? ⟨S, 0, none⟩ = some (.int .i64 (clampN limit : Nat)) := hb5.cell 0
            have t1 : w5.cell? ⟨S, 1, none⟩ = some (.slice A2 L.length c2) := hb5.cell 1
            have t2 : w5.cell? ⟨S, 2, none⟩ = some (.int .i64 (at_ : Nat)) := hb5.cell 2
            have hKD5 : w5.heap[D]? = some (.deferred (some [])) := (hk5.block D hDl (fun h => h)).trans HKD
            have HR5 := Lib.hid (HRW.out.keep hk5 (fun _ _ h => h))
            have HS5 := Lib.hid (HSW.out.keep hk5)
            have HK5 : Hid (Keep (fun _ => False) w1 w5) := Keep.trans HKW hk5 (fun _ _ h => h)
            have HKD5 := Lib.hid hKD5
            have hDl5 := (Array.getElem?_eq_some_iff.1 hKD5).1
            clear hk5 hb5 hKD5 HRW HSW HKW HKD HBW HBNW
            go_wp2_with fail
            refine (stands_does HR5 HS5).mono ?_
            rintro e w6 ⟨rfl, hk6⟩
            have HKD6 : Hid (w6.heap[D]? = some (.deferred (some []))) := (hk6.block D hDl5 (fun h => h)).trans HKD5
            have HK6 : Hid (Keep (fun _ => False) w1 w6) := Keep.trans HK5 hk6 (fun _ _ h => h)
            have HKw6 : Hid (Keep (fun _ => False) w w6) := Keep.trans HKA HK6 (fun _ _ h => h)
            clear hk6 HR5 HS5 HK5 HKD5
            go_wp2_with fail
            have ht : Turns w.heap.size w6 (w6.putObj D (.deferred none)) := Turns.put (by omega) HKD6.out rfl
            refine ⟨by simp, .inl ⟨_, _, rfl, run_takeDeferred HKD6, ?_⟩⟩
            exact ⟨.bool true, by simp [results, Try.results7, go_sem], rfl, Turns.keep ht HKw6 (Nat.le_refl _)⟩
end Go.Proofs.Ytimkbbdncajggaa
