/- RingChanges walked. -/
import Derived.Test.YtimkbbdncajggaaAl
namespace Go.Proofs.Ytimkbbdncajggaa
open Go.RowKit Go.BigFrame Go.Shelf
theorem change1_does {w : World} {b : Nat} {more x : ByteArray} (hb : Blk w b 9 #[.string more]) (hl : more.size + x.size ≤ 9223372036854775807) :
    Calls Try.prog 26 #[.string x, .pointer (some ⟨b, 0, none⟩)] w fun e w' => e = .returned (.string (more ++ x)) ∧ w' = w := by
  have c1 : w.cell? ⟨b, 0, none⟩ = some (.string more) := hb.cell 0
  clear hb
  go_enter Try.func26, Try.ntmps26
  go_wp2_with fail
  go_ret
  exact ⟨rfl, rfl⟩
set_option maxRecDepth 100000 in
set_option maxHeartbeats 8000000 in
theorem changes_any (A : Option Addr) (c : Nat) (l : List Op) (limit : Int) (more : ByteArray) (w : World) (h : OpsAt w A l) (hn : l.length * 24 ≤ 140737488351232) (hbig : ∀ o ∈ l, o.s.size ≤ bigM) (hmb : more.size ≤ bigM) :
    Calls Try.prog 8 #[.int .i64 limit, .slice A l.length c, .string more] w fun e w' => e = .returned (.bool true) ∧ Keep (fun _ => False) w w' := by
  have hb1 := (clampN_bd limit).1
  have hb2 := (clampN_bd limit).2.1
  have HO := Lib.hid (h.keep ((Keep.refl (fun _ => False) w).alloc (.cells #[.string more] 9)))
  have b0 : Blk (w.alloc (.cells #[.string more] 9)) w.heap.size 9 #[.string more] := Blk.new w 9 _
  have kA : Keep (fun _ => False) w (w.alloc (.cells #[.string more] 9)) := (Keep.refl _ w).alloc _
  have zA : (w.alloc (.cells #[.string more] 9)).heap.size = w.heap.size + 1 := by simp
  clear h
  go_enter Try.func8, Try.ntmps8
  go_wp2_with fail
  generalize w.alloc (.cells #[.string more] 9) = w1 at *
  have HKA := Lib.hid kA
  have HB0 := Lib.hid b0
  clear kA b0
  refine (few_any A c l w1 HO hn).mono ?_
  rintro e w2 ⟨fb, rfl, hfb, hk⟩
  have HK2 := Lib.hid hk
  have q5 : w2.cell? ⟨w.heap.size, 0, none⟩ = some (.string more) := (HB0.out.keep HK2 (fun h => h)).cell 0
  clear hk
  cases fb with
  | false =>
    go_wp2_with fail
    refine (alive_does _).mono ?_
    rintro e w3 ⟨rfl, hk3⟩
    have HK3 : Hid (Keep (fun _ => False) w w3) := Keep.trans HKA (Keep.trans HK2 hk3 (fun _ _ h => h)) (fun _ _ h => h)
    clear hk3
    go_wp2_with fail
    exact bodyPost_ret (v := .bool true) (by simp [results, Try.results8, go_sem]) rfl ⟨rfl, HK3⟩
  | true =>
    have hll := hfb rfl
    clear hfb
    by_cases hm : 200 < more.size
    · have hmi : (200 : Int) < (more.size : Int) := by omega
      go_wp2_with fail
      refine (alive_does _).mono ?_
      rintro e w3 ⟨rfl, hk3⟩
      have HK3 : Hid (Keep (fun _ => False) w w3) := Keep.trans HKA (Keep.trans HK2 hk3 (fun _ _ h => h)) (fun _ _ h => h)
      clear hk3
      go_wp2_with fail
      exact bodyPost_ret (v := .bool true) (by simp [results, Try.results8, go_sem]) rfl ⟨rfl, HK3⟩
    have hmi : ¬ (200 : Int) < (more.size : Int) := by omega
    go_wp2_with fail
    refine (newS_does limit w2).mono ?_
    rintro e w3 ⟨rfl, hR, hk3⟩
    have HR3 := Lib.hid hR
    have HK3 : Hid (Keep (fun _ => False) w1 w3) := Keep.trans HK2 hk3 (fun _ _ h => h)
    have hs2 := HK2.out.size
    clear hk3 hR
    go_wp2_with fail
    refine (refNew_does limit w3).mono ?_
    rintro e w4 ⟨rfl, hk4⟩
    have HR4 := Lib.hid (HR3.out.keep hk4 (fun _ _ h => h))
    have HK4 : Hid (Keep (fun _ => False) w1 w4) := Keep.trans HK3 hk4 (fun _ _ h => h)
    clear hk4 HR3
    go_wp2_with fail
    have b6 : Blk (w4.alloc (.cells #[.int .i64 (clampN limit : Nat), .slice none 0 0, .int .i64 0] 43)) w4.heap.size 43 #[.int .i64 (clampN limit : Nat), .slice none 0 0, .int .i64 0] := Blk.new w4 43 _
    have k46 : Keep (fun _ => False) w4 (w4.alloc (.cells #[.int .i64 (clampN limit : Nat), .slice none 0 0, .int .i64 0] 43)) := (Keep.refl _ w4).alloc _
    generalize w4.alloc (.cells #[.int .i64 (clampN limit : Nat), .slice none 0 0, .int .i64 0] 43) = w6 at *
    have hlt4 := HR4.out.blk.lt
    have HR6 := Lib.hid (HR4.out.keep k46 (fun _ _ h => h))
    have HK6 : Hid (Keep (fun _ => False) w1 w6) := Keep.trans HK4 k46 (fun _ _ h => h)
    have HB6 := Lib.hid b6
    have hs4 := HK4.out.size
    clear HR4 k46 b6 q5
    generalize hS : w4.heap.size = S at *
    go_loopw [7, 29] (fun p i wr => ∃ (k B : Nat) (A' : Option Addr) (c' : Nat) (A2 : Option Addr) (c2 : Nat), k ≤ l.length ∧ p = .pointer (some ⟨B, 0, none⟩) ∧ i = .int .i64 (k : Nat) ∧ RingS wr B A' c' (clampN limit) (runR (clampN limit) (l.take k)).1 (runR (clampN limit) (l.take k)).2 ∧ Blk wr S 43 #[.int .i64 (clampN limit : Nat), .slice A2 (runR (clampN limit) (l.take k)).1.length c2, .int .i64 ((runR (clampN limit) (l.take k)).2 : Nat)] ∧ StAt wr A2 c2 (runR (clampN limit) (l.take k)).1 ∧ Keep (fun _ => False) w1 wr ∧ (∀ j, Foot B A' j → w1.heap.size ≤ j ∧ j ≠ S) ∧ (∀ g o, A2 = some ⟨g, o, none⟩ → ¬ Foot B A' g ∧ g < wr.heap.size ∧ g ≠ S)) (fun _ i _ => l.length - (intOf i).toNat)
    case atStart => exact ⟨0, w2.heap.size, none, 0, none, 0, by omega, rfl, rfl, by simpa [runR] using HR6.out, by simpa [runR] using HB6.out, ⟨fun i u hu => by simp [runR] at hu, by simp [runR], by omega, fun _ => by simp [runR]⟩, HK6, (by rintro j (rfl | ⟨o, hh⟩) <;> first | exact ⟨hs2, by omega⟩ | cases hh), fun g o h => by cases h⟩
    case round =>
      clear HR6 HB6 HK6 HK4 HK3 HK2 hs2 hlt4
      obtain ⟨k, B, A', c', A2, c2, hk, rfl, rfl, hR, hB, hSt, hK, hft, hsep⟩ := hrel
      have HSEP := Lib.hid hsep
      have HR := Lib.hid hR
      have HB := Lib.hid hB
      have HSt := Lib.hid hSt
      have HK := Lib.hid hK
      have HFT := Lib.hid hft
      clear hR hB hSt hK hft hsep
      by_cases hkl : k < l.length
      · obtain ⟨x, hx⟩ : ∃ x, l[k]? = some x := ⟨_, List.getElem?_eq_getElem hkl⟩
        obtain ⟨bo, oo, rfl, hbo, h0, h1, hsz⟩ := (HO.out.keep HK.out) k x hx
        have hk0 : (0 : Int) ≤ (k : Int) := by omega
        have hk1 : (k : Int) < (l.length : Int) := by omega
        have HX := Lib.hid hx
        clear hx
        have hrs := runR_snoc (lim := clampN limit) HX.out
        have hsize := runR_size (clampN limit) l hbig k hk
        have hxb := hbig x (List.mem_of_getElem? HX.out)
        have hsum : ∀ y ∈ (runR (clampN limit) (l.take k)).1, y.size + x.s.size ≤ 9223372036854775807 := fun y hy => by
          have h8 := hsize y hy
          have h7 : k * bigM ≤ 200 * bigM := Nat.mul_le_mul_right _ (by omega)
          unfold bigM at *
          omega
        have HRS := Lib.hid hrs
        have HSUM := Lib.hid hsum
        clear hrs hsize hsum
        generalize hst : runR (clampN limit) (l.take k) = st at *
        obtain ⟨L, at_⟩ := st
        dsimp only at *
        go_wp2_with fail
        have hkA : Keep (fun _ => False) wr (wr.alloc (.cells #[.int .i64 x.kind, .string x.s] 46)) := (Keep.refl _ wr).alloc _
        have hbx : Blk (wr.alloc (.cells #[.int .i64 x.kind, .string x.s] 46)) wr.heap.size 46 #[.int .i64 x.kind, .string x.s] := Blk.new wr 46 _
        have hz8 : (wr.alloc (.cells #[.int .i64 x.kind, .string x.s] 46)).heap.size = wr.heap.size + 1 := by simp
        generalize wr.alloc (.cells #[.int .i64 x.kind, .string x.s] 46) = W8 at *
        have HR8 := Lib.hid (HR.out.keep hkA (fun _ _ h => h))
        have hB8 := HB.out.keep hkA (fun h => h)
        have HSt8 := Lib.hid (HSt.out.keep hkA)
        have HK8 : Hid (Keep (fun _ => False) w1 W8) := Keep.trans HK hkA (fun _ _ h => h)
        have hflt := HR.out.lt
        have o0 : W8.cell? ⟨wr.heap.size, 0, none⟩ = some (.int .i64 x.kind) := hbx.cell 0
        have o1 : W8.cell? ⟨wr.heap.size, 1, none⟩ = some (.string x.s) := hbx.cell 1
        have s0 : W8.cell? ⟨S, 0, none⟩ = some (.int .i64 (clampN limit : Nat)) := hB8.cell 0
        have s1 : W8.cell? ⟨S, 1, none⟩ = some (.slice A2 L.length c2) := hB8.cell 1
        have s2 : W8.cell? ⟨S, 2, none⟩ = some (.int .i64 (at_ : Nat)) := hB8.cell 2
        have HB8 := Lib.hid hB8
        have HBX := Lib.hid hbx
        have HFLT := Lib.hid hflt
        have hSl := HB.out.lt
        clear hkA hB8 hbx hflt HR HB HSt HK
        go_region_with ((first
          | (go_at_call 22; refine (does_does x (HR8.out.keep (Keep.drew (Keep.refl (fun _ => False) _)) (fun _ _ h => h)) HSUM.out).mono ?_; rintro e w5 ⟨B5, A5, c5, rfl, hR5, hk5, hft5⟩; have hb5 := (HB8.out.drew).keep hk5 (fun h => (HFT.out _ h).2 rfl); have hx5 := (HBX.out.drew).keep hk5 (fun h => by have := HFLT.out _ h; omega); have o0 : w5.cell? ⟨wr.heap.size, 0, none⟩ = some (.int .i64 x.kind) := hx5.cell 0; have o1 : w5.cell? ⟨wr.heap.size, 1, none⟩ = some (.string x.s) := hx5.cell 1; have s0 : w5.cell? ⟨S, 0, none⟩ = some (.int .i64 (clampN limit : Nat)) := hb5.cell 0; have s1 : w5.cell? ⟨S, 1, none⟩ = some (.slice A2 L.length c2) := hb5.cell 1; have s2 : w5.cell? ⟨S, 2, none⟩ = some (.int .i64 (at_ : Nat)) := hb5.cell 2; have HB5 := Lib.hid hb5; have HR5 := Lib.hid hR5; have HK5 := Lib.hid hk5; have HFT5 := Lib.hid hft5; clear hb5 hx5 hR5 hk5 hft5)
          | (go_at_call 23; refine (refDo_does x (HSt8.out.keepS (Keep.trans ((Keep.refl (Foot B A') W8).drew) HK5.out (fun _ _ h => h)) (fun g o h => (HSEP.out g o h).1)) HR8.out.few HR8.out.most HR8.out.one HR8.out.at_ HSUM.out).mono ?_; rintro e w7 ⟨A7, c7, rfl, hS7, hk7, hsep7⟩; have hb7 := HB5.out.keep hk7 (fun h => h); have s0 : w7.cell? ⟨S, 0, none⟩ = some (.int .i64 (clampN limit : Nat)) := hb7.cell 0; have s1 : w7.cell? ⟨S, 1, none⟩ = some (.slice A2 L.length c2) := hb7.cell 1; have s2 : w7.cell? ⟨S, 2, none⟩ = some (.int .i64 (at_ : Nat)) := hb7.cell 2; have t0 := hb7.frozen 0; have t1 := hb7.frozen 1; have t2 := hb7.frozen 2; have HB7 := Lib.hid hb7; have HS7 := Lib.hid hS7; have HK7 := Lib.hid hk7; have HSEP7 := Lib.hid hsep7; clear hb7 hS7 hk7 hsep7)))
        all_goals
          generalize hst2 : stepR (clampN limit) L at_ x = r at *
          obtain ⟨L', at'⟩ := r
          dsimp only at *
          have hb9 : Blk (((w7.setCell ⟨S, 0, none⟩ (.int .i64 (clampN limit : Nat))).setCell ⟨S, 1, none⟩ (.slice A7 L'.length c7)).setCell ⟨S, 2, none⟩ (.int .i64 (at' : Nat))) S 43 #[.int .i64 (clampN limit : Nat), .slice A7 L'.length c7, .int .i64 (at' : Nat)] := ((HB7.out.set_ 0 _).set_ 1 _).set_ 2 _
          have hk9 : Keep (fun k => k = S) w7 (((w7.setCell ⟨S, 0, none⟩ (.int .i64 (clampN limit : Nat))).setCell ⟨S, 1, none⟩ (.slice A7 L'.length c7)).setCell ⟨S, 2, none⟩ (.int .i64 (at' : Nat))) := (((Keep.refl (fun k => k = S) w7).setCell (p := ⟨S, 0, none⟩) (fun _ => rfl) _).setCell (p := ⟨S, 1, none⟩) (fun _ => rfl) _).setCell (p := ⟨S, 2, none⟩) (fun _ => rfl) _
          generalize (((w7.setCell ⟨S, 0, none⟩ (.int .i64 (clampN limit : Nat))).setCell ⟨S, 1, none⟩ (.slice A7 L'.length c7)).setCell ⟨S, 2, none⟩ (.int .i64 (at' : Nat))) = W9 at *
          have hz8d : W8.drew.heap.size = W8.heap.size := rfl
          have hs57 := HK5.out.size
          have hs79 := hk9.size
          have hs77 := HK7.out.size
          have hft9 : ∀ j, Foot B5 A5 j → w1.heap.size ≤ j ∧ j ≠ S := fun j h => (HFT5.out j h).elim (HFT.out j) (fun h => ⟨by omega, by omega⟩)
          have hsep9 : ∀ g o, A7 = some ⟨g, o, none⟩ → ¬ Foot B5 A5 g ∧ g < W9.heap.size ∧ g ≠ S := by
            intro g o hA
            rcases HSEP7.out g o hA with ⟨o', hA2⟩ | ⟨h1, h2⟩
            · obtain ⟨e1, e2, e3⟩ := HSEP.out g o' hA2
              exact ⟨fun hf => (HFT5.out g hf).elim e1 (fun h => by omega), by omega, e3⟩
            · exact ⟨fun hf => by have := HR5.out.lt g hf; omega, by omega, by omega⟩
          have HR9 := Lib.hid ((HR5.out.keep HK7 (fun _ _ h => h)).keep hk9 (fun j hf h => (hft9 j hf).2 h))
          have HS9 := Lib.hid (HS7.out.keepS hk9 (fun g o hA e => (hsep9 g o hA).2.2 e))
          have HK9 : Hid (Keep (fun _ => False) w1 W9) := Keep.trans (Keep.trans (Keep.trans HK8.out.drew HK5 (fun i hi h => by have := (HFT.out i h).1; omega)) HK7 (fun _ _ h => h)) hk9 (fun i hi h => by omega)
          have HB9 := Lib.hid hb9
          have t0 : W9.cell? ⟨S, 0, none⟩ = some (.int .i64 (clampN limit : Nat)) := hb9.cell 0
          have t1 : W9.cell? ⟨S, 1, none⟩ = some (.slice A7 L'.length c7) := hb9.cell 1
          have t2 : W9.cell? ⟨S, 2, none⟩ = some (.int .i64 (at' : Nat)) := hb9.cell 2
          have HFT9 := Lib.hid hft9
          have HSEP9 := Lib.hid hsep9
          clear hb9 hk9 hft9 hsep9 HR5 HK5 HFT5 HB5 HB7 HS7 HK7 HSEP7
          go_wp2_with fail
          refine ⟨⟨k + 1, B5, A5, c5, A7, c7, by omega, rfl, by push_cast; rfl, ?_, ?_, ?_, HK9, HFT9, HSEP9⟩, by simp [intOf]; omega⟩
          · rw [HRS.out]; exact HR9
          · rw [HRS.out]; exact HB9
          · rw [HRS.out]; exact HS9
      · have : k = l.length := by omega
        subst this
        have hsize := runR_size (clampN limit) l hbig l.length (Nat.le_refl _)
        rw [List.take_length] at hsize HR HB HSt
        have hSl := HB.out.lt
        have hBl := HR.out.lt
        generalize hst : runR (clampN limit) l = st at *
        obtain ⟨L, at_⟩ := st
        dsimp only at *
        have hB0r := HB0.out.keep HK (fun h => h)
        have HB0r := Lib.hid hB0r
        cases L with
        | nil =>
          go_wp2_with fail
          refine (changeS_empty _ HR).mono ?_
          rintro e wr ⟨rfl, rfl⟩
          have s1 : wr.cell? ⟨S, 1, none⟩ = some (.slice A2 0 c2) := HB.out.cell 1
          go_wp2_with fail
          refine (alive_does _).mono ?_
          rintro e w9 ⟨rfl, hk9⟩
          have HK9 : Hid (Keep (fun _ => False) w w9) := Keep.trans HKA (Keep.trans HK hk9 (fun _ _ h => h)) (fun _ _ h => h)
          have HR9 := Lib.hid (HR.out.keep hk9 (fun _ _ h => h))
          clear hk9
          go_wp2_with fail
          refine (lenS_does HR9).mono ?_
          rintro e w9 ⟨rfl, rfl⟩
          go_wp2_with fail
          exact bodyPost_ret (v := .bool true) (by simp [results, Try.results8, go_sem]) rfl ⟨rfl, HK9⟩
        | cons x L0 =>
          have hxs : x.size ≤ l.length * bigM := hsize x (List.mem_cons_self ..)
          have hxm : more.size + x.size ≤ 9223372036854775807 := by
            have h7 : l.length * bigM ≤ 200 * bigM := Nat.mul_le_mul_right _ hll
            unfold bigM at *
            omega
          have HSEP0 := HSEP.out
          go_wp2_with fail
          refine (changeS_does (caps := #[.pointer (some ⟨w.heap.size, 0, none⟩)]) (y := more ++ x) HR (enters_of Try.func26 (by kernel_rfl) rfl) (fun w' hk => change1_does (HB0r.out.keep hk (fun e => by have := (HFT.out B (.inl rfl)).1; omega)) hxm)).mono ?_
          rintro e w4 ⟨rfl, A4, c4, hR4, hk4, hft4⟩
          have hSB : ¬ S = B := fun e => (HFT.out B (.inl rfl)).2 e.symm
          have hb4 := HB.out.keep hk4 hSB
          have hq4 : w4.cell? ⟨w.heap.size, 0, none⟩ = some (.string more) := (HB0r.out.keep hk4 (fun e => by have := (HFT.out B (.inl rfl)).1; omega)).cell 0
          have HSt4 := Lib.hid (HSt.out.keepS hk4 (fun g o hA e => (HSEP0 g o hA).1 (.inl e)))
          have HK4 : Hid (Keep (fun _ => False) w1 w4) := Keep.trans HK hk4 (fun i hi h => by have := (HFT.out B (.inl rfl)).1; omega)
          have hz4 := hk4.size
          have hft : ∀ j, Foot B A4 j → j ≠ S := fun j h e => (hft4 j h).elim (fun h => (HFT.out B (.inl rfl)).2 (by omega)) (fun h => by omega)
          have HFT4 := Lib.hid hft
          have HR4 := Lib.hid hR4
          have HB4 := Lib.hid hb4
          have hRlt := hR4.lt
          have HRLT := Lib.hid hRlt
          have hSl4 := hb4.lt
          obtain ⟨g, o, rfl, hcell⟩ := HSt4.out.reads 0 (vals x) rfl
          rw [Nat.add_zero] at hcell
          have hcle := HSt4.out.le
          rw [List.length_cons] at hcle
          have hcmx := HSt4.out.max
          have hL0l : L0.length + 1 ≤ 64 := Nat.le_trans hR4.few hR4.most
          have s1 : w4.cell? ⟨S, 1, none⟩ = some (.slice (some ⟨g, o, none⟩) (L0.length + 1) c2) := hb4.cell 1
          have hne0 : ((L0.length : Int) + 1 == 0) = false := by simp; omega
          have hne1 : ¬ (L0.length : Int) + 1 = 0 := by omega
          have RL : Hid (ReadsAs w4 (some ⟨g, o + 1, none⟩) (L0.map vals)) := by
            intro i u hu
            obtain ⟨g', o', e, hc⟩ := HSt4.out.reads (i + 1) u (by simpa using hu)
            cases e
            exact ⟨g, o + 1, rfl, by rw [Nat.add_assoc, Nat.add_comm 1 i]; exact hc⟩
          obtain ⟨i0, hi, hz0, hz1, hz2⟩ := partsS
          have HI := Lib.hid hi
          have HO : Hid (∀ u ∈ L0.map vals, u.oneCell' = true) := by
            intro u hu
            obtain ⟨y, _, rfl⟩ := List.mem_map.1 hu
            rfl
          have HF : Hid (Fresh (w4.drew.alloc (.cells #[.string (more ++ x)] 9)) w4.heap.size 9 (some ⟨w4.heap.size, 0, none⟩) 1 1 [.string (more ++ x)]) := Fresh.one (w := w4.drew) (base := w4.heap.size) 9 (.string (more ++ x)) (Nat.le_refl _)
          have HSZ : Hid (w4.heap.size ≤ (w4.drew.alloc (.cells #[.string (more ++ x)] 9)).heap.size) := by
            rw [World.size_alloc]
            exact Nat.le_succ _
          clear hR4 hk4 hft4 hb4 hft hRlt hi HR HB HSt HK HB0r HSEP HSEP0 HFT
          have hp1 : 0 < L0.length + 1 := by omega
          go_wp2_with fail
          have s1' := cell_alloc_some (w := w4.drew) s1 (.cells #[.string (more ++ x)] 9)
          have f1 := HB4.out.frozen 1
          have hns : ¬ 9223372036854775807 < more.size + x.size := by omega
          have hbs : (1 : Int) ≤ (L0.length : Int) + 1 := by omega
          have HKF : Hid (Keep (fun _ => False) w4 (w4.drew.alloc (.cells #[.string (more ++ x)] 9))) := ((Keep.refl _ w4).drew).alloc _
          have FINAL : ∀ (W9 : World) (A3 : Option Addr) (c3 : Nat), True := fun _ _ _ => trivial
          clear FINAL
          by_cases hc1 : c2 = 1
          · have hL0 : L0 = [] := List.eq_nil_of_length_eq_zero (by omega)
            subst hL0
            subst hc1
            have HR : Hid (ReadsAs (w4.drew.alloc (.cells #[.string (more ++ x)] 9)) (some ⟨g, o, none⟩) []) := fun i u hu => by simp at hu
            have HO : Hid (∀ u ∈ ([] : List Value), u.oneCell' = true) := fun u hu => by cases hu
            go_region_law ((go_must (refine step_append_onto _ (by rfl) (.tmp 65) (.tmp 68) _ (by rfl) w4.heap.size 9 i0 (.string ⟨#[]⟩) 16 Try.underlying31 HI.out hz0 hz1 hz2 rfl (some ⟨w4.heap.size, 0, none⟩) 1 1 [.string (more ++ x)] (by rfl) ?_ (some ⟨g, o, none⟩) 0 0 [] (by rfl) ?_ ?_ ?_ ?_ ?_ ?_ ?_ ?_); exact HF.out; exact rfl; exact HR.out; exact fun h => nomatch h; exact HO.out; omega; omega; exact HSZ.out; intro A3 c3 w3 hF3 hK3; have hk3 : Keep (fun _ => False) w4 w3 := Keep.trans HKF hK3 (fun i hi h => by first | exact absurd h (by omega) | (obtain ⟨o', h⟩ := h; cases h; omega)); have hb3 := HB4.out.keep hk3 (fun h => h); have p1 := hb3.cell 1; have p1 : w3.cell? ⟨S, 1, none⟩ = some _ := p1; have p1f := hb3.frozen 1; have p2f := hb3.frozen 2; have HB3 := Lib.hid hb3; have HF3 := Lib.hid hF3; have HK3 := Lib.hid hk3; clear hK3 hk3 hF3 hb3))
            all_goals
              have p2 : w3.cell? ⟨S, 2, none⟩ = some (.int .i64 (at_ : Nat)) := HB3.out.cell 2
              go_wp2_with fail
              have hb9 : Blk ((w3.setCell ⟨S, 1, none⟩ (.slice A3 (1 + 0) c3)).setCell ⟨S, 2, none⟩ (.int .i64 0)) S 43 #[.int .i64 (clampN limit : Nat), .slice A3 (1 + 0) c3, .int .i64 0] := (HB3.out.set_ 1 _).set_ 2 _
              have hk9 : Keep (fun k => k = S) w3 ((w3.setCell ⟨S, 1, none⟩ (.slice A3 (1 + 0) c3)).setCell ⟨S, 2, none⟩ (.int .i64 0)) := ((Keep.refl (fun k => k = S) w3).setCell (p := ⟨S, 1, none⟩) (fun _ => rfl) _).setCell (p := ⟨S, 2, none⟩) (fun _ => rfl) _
              generalize ((w3.setCell ⟨S, 1, none⟩ (.slice A3 (1 + 0) c3)).setCell ⟨S, 2, none⟩ (.int .i64 0)) = W9 at *
              obtain ⟨hc3, hc4⟩ := Tail.le (Tail.of_fresh HF3.out)
              have HR9 := Lib.hid ((HR4.out.keep HK3 (fun _ _ h => h)).keep hk9 (fun j hf h => HFT4.out j hf h))
              have HS9 : Hid (StAt W9 A3 c3 ((more ++ x) :: [])) := ⟨(HF3.out.keep hk9 (fun b o h => by have := (HF3.out.block b o h).1; omega)).reads, by rw [List.length_cons]; simpa [Nat.add_comm] using hc3, hc4, fun h => by
                obtain ⟨h3, _⟩ := Tail.none_ (Tail.of_fresh HF3.out) h
                omega⟩
              have HK9 : Hid (Keep (fun _ => False) w W9) := Keep.trans HKA (Keep.trans (Keep.trans HK4 HK3 (fun _ _ h => h)) hk9 (fun i hi h => by omega)) (fun _ _ h => h)
              have HB9 := Lib.hid hb9
              clear hb9 hk9 HB3 HF3 HK3 p1 p2
              refine (alive_does _).mono ?_
              rintro e w10 ⟨rfl, hk10⟩
              have hb10 := HB9.out.keep hk10 (fun h => h)
              have t0 : w10.cell? ⟨S, 0, none⟩ = some (.int .i64 (clampN limit : Nat)) := hb10.cell 0
              have t1 : w10.cell? ⟨S, 1, none⟩ = some (.slice A3 (1 + 0) c3) := hb10.cell 1
              have t2 : w10.cell? ⟨S, 2, none⟩ = some (.int .i64 0) := hb10.cell 2
              have HR10 := Lib.hid (HR9.out.keep hk10 (fun _ _ h => h))
              have HS10 := Lib.hid (HS9.out.keep hk10)
              have HK10 : Hid (Keep (fun _ => False) w w10) := Keep.trans HK9 hk10 (fun _ _ h => h)
              have HST := Lib.hid (stands_does HR10 HS10)
              have hln : ((more ++ x) :: []).length = 1 + 0 := by rw [List.length_cons]; simp [Nat.add_comm]
              rw [hln] at HST
              clear hk10 hb10 HR9 HS9 HK9 HB9
              go_wp2_with fail
              refine HST.out.mono ?_
              rintro e w11 ⟨rfl, hk11⟩
              have HK11 : Hid (Keep (fun _ => False) w w11) := Keep.trans HK10 hk11 (fun _ _ h => h)
              clear hk11
              go_wp2_with fail
              exact bodyPost_ret (v := .bool true) (by simp [results, Try.results8, go_sem]) rfl ⟨rfl, HK11⟩
          · have HR : Hid (ReadsAs (w4.drew.alloc (.cells #[.string (more ++ x)] 9)) (some ⟨g, o + 1, none⟩) (L0.map vals)) := RL.out.keep HKF (fun _ _ _ h => h)
            go_region_law ((go_must (refine step_append_onto _ (by rfl) (.tmp 65) (.tmp 68) _ (by rfl) w4.heap.size 9 i0 (.string ⟨#[]⟩) 16 Try.underlying31 HI.out hz0 hz1 hz2 rfl (some ⟨w4.heap.size, 0, none⟩) 1 1 [.string (more ++ x)] (by rfl) ?_ (some ⟨g, o + 1, none⟩) L0.length (c2 - 1) (L0.map vals) (by rfl) ?_ ?_ ?_ ?_ ?_ ?_ ?_ ?_); exact HF.out; exact List.length_map ..; exact HR.out; exact fun h => nomatch h; exact HO.out; omega; omega; exact HSZ.out; intro A3 c3 w3 hF3 hK3; have hk3 : Keep (fun _ => False) w4 w3 := Keep.trans HKF hK3 (fun i hi h => by first | exact absurd h (by omega) | (obtain ⟨o', h⟩ := h; cases h; omega)); have hb3 := HB4.out.keep hk3 (fun h => h); have p1 := hb3.cell 1; have p1 : w3.cell? ⟨S, 1, none⟩ = some _ := p1; have p1f := hb3.frozen 1; have p2f := hb3.frozen 2; have HB3 := Lib.hid hb3; have HF3 := Lib.hid hF3; have HK3 := Lib.hid hk3; clear hK3 hk3 hF3 hb3))
            all_goals
              have p2 : w3.cell? ⟨S, 2, none⟩ = some (.int .i64 (at_ : Nat)) := HB3.out.cell 2
              go_wp2_with fail
              have hb9 : Blk ((w3.setCell ⟨S, 1, none⟩ (.slice A3 (1 + L0.length) c3)).setCell ⟨S, 2, none⟩ (.int .i64 0)) S 43 #[.int .i64 (clampN limit : Nat), .slice A3 (1 + L0.length) c3, .int .i64 0] := (HB3.out.set_ 1 _).set_ 2 _
              have hk9 : Keep (fun k => k = S) w3 ((w3.setCell ⟨S, 1, none⟩ (.slice A3 (1 + L0.length) c3)).setCell ⟨S, 2, none⟩ (.int .i64 0)) := ((Keep.refl (fun k => k = S) w3).setCell (p := ⟨S, 1, none⟩) (fun _ => rfl) _).setCell (p := ⟨S, 2, none⟩) (fun _ => rfl) _
              generalize ((w3.setCell ⟨S, 1, none⟩ (.slice A3 (1 + L0.length) c3)).setCell ⟨S, 2, none⟩ (.int .i64 0)) = W9 at *
              obtain ⟨hc3, hc4⟩ := Tail.le (Tail.of_fresh HF3.out)
              have HR9 := Lib.hid ((HR4.out.keep HK3 (fun _ _ h => h)).keep hk9 (fun j hf h => HFT4.out j hf h))
              have HS9 : Hid (StAt W9 A3 c3 ((more ++ x) :: L0)) := ⟨(HF3.out.keep hk9 (fun b o h => by have := (HF3.out.block b o h).1; omega)).reads, by rw [List.length_cons]; simpa [Nat.add_comm] using hc3, hc4, fun h => by
                obtain ⟨h3, _⟩ := Tail.none_ (Tail.of_fresh HF3.out) h
                omega⟩
              have HK9 : Hid (Keep (fun _ => False) w W9) := Keep.trans HKA (Keep.trans (Keep.trans HK4 HK3 (fun _ _ h => h)) hk9 (fun i hi h => by omega)) (fun _ _ h => h)
              have HB9 := Lib.hid hb9
              clear hb9 hk9 HB3 HF3 HK3 p1 p2
              refine (alive_does _).mono ?_
              rintro e w10 ⟨rfl, hk10⟩
              have hb10 := HB9.out.keep hk10 (fun h => h)
              have t0 : w10.cell? ⟨S, 0, none⟩ = some (.int .i64 (clampN limit : Nat)) := hb10.cell 0
              have t1 : w10.cell? ⟨S, 1, none⟩ = some (.slice A3 (1 + L0.length) c3) := hb10.cell 1
              have t2 : w10.cell? ⟨S, 2, none⟩ = some (.int .i64 0) := hb10.cell 2
              have HR10 := Lib.hid (HR9.out.keep hk10 (fun _ _ h => h))
              have HS10 := Lib.hid (HS9.out.keep hk10)
              have HK10 : Hid (Keep (fun _ => False) w w10) := Keep.trans HK9 hk10 (fun _ _ h => h)
              have HST := Lib.hid (stands_does HR10 HS10)
              have hln : ((more ++ x) :: L0).length = 1 + L0.length := by rw [List.length_cons]; simp [Nat.add_comm]
              rw [hln] at HST
              clear hk10 hb10 HR9 HS9 HK9 HB9
              go_wp2_with fail
              refine HST.out.mono ?_
              rintro e w11 ⟨rfl, hk11⟩
              have HK11 : Hid (Keep (fun _ => False) w w11) := Keep.trans HK10 hk11 (fun _ _ h => h)
              clear hk11
              go_wp2_with fail
              exact bodyPost_ret (v := .bool true) (by simp [results, Try.results8, go_sem]) rfl ⟨rfl, HK11⟩
end Go.Proofs.Ytimkbbdncajggaa
