/- RingAll walked. -/
import Derived.Test.YtimkbbdncajggaaRd
import Derived.Test.YtimkbbdncajggaaSt
import Derived.Test.YtimkbbdncajggaaAv
import Derived.Deep.RegionWith
namespace Go.Proofs.Ytimkbbdncajggaa
open Go.RowKit Go.BigFrame Go.Shelf
def runR (lim : Nat) (l : List Op) : List ByteArray × Nat := l.foldl (fun r o => stepR lim r.1 r.2 o) ([], 0)
theorem runR_snoc {lim : Nat} {l : List Op} {k : Nat} {o : Op} (h : l[k]? = some o) : runR lim (l.take (k + 1)) = stepR lim (runR lim (l.take k)).1 (runR lim (l.take k)).2 o := by
  obtain ⟨hk, he⟩ := List.getElem?_eq_some_iff.1 h
  rw [List.take_succ_eq_append_getElem hk, he]
  unfold runR
  rw [List.foldl_append]
  rfl
/-- How long the strings of a script may be. -/
def bigM : Nat := 140737488355328
theorem StAt.keepS {S : Nat → Prop} {w w' : World} {A : Option Addr} {c : Nat} {L : List ByteArray} (h : StAt w A c L) (hk : Keep S w w') (hs : ∀ g o, A = some ⟨g, o, none⟩ → ¬ S g) : StAt w' A c L := ⟨h.reads.keep hk hs, h.le, h.max, h.nil⟩
theorem stepR_size {lim : Nat} {L : List ByteArray} {at_ N : Nat} {o : Op} (h : ∀ x ∈ L, x.size ≤ N) (ho : o.s.size ≤ bigM) : ∀ x ∈ (stepR lim L at_ o).1, x.size ≤ N + bigM := by
  have h0 : ∀ x ∈ L, x.size ≤ N + bigM := fun x hx => Nat.le_trans (h x hx) (Nat.le_add_right _ _)
  unfold stepR
  split
  · intro x hx
    have hx := List.mem_of_mem_take hx
    rcases List.mem_cons.1 hx with rfl | hx
    · omega
    · exact h0 x hx
  split
  · cases L with
    | nil => intro x hx; cases hx
    | cons y L0 =>
      intro x hx
      rcases List.mem_cons.1 hx with rfl | hx
      · have := h y (List.mem_cons_self ..)
        rw [ByteArray.size_append]
        omega
      · exact h0 x (List.mem_cons_of_mem _ hx)
  split
  · exact h0
  split
  · exact h0
  · exact h0
theorem runR_size (lim : Nat) (l : List Op) (hl : ∀ o ∈ l, o.s.size ≤ bigM) : ∀ k, k ≤ l.length → ∀ x ∈ (runR lim (l.take k)).1, x.size ≤ k * bigM
  | 0, _ => by rw [List.take_zero]; intro x hx; cases hx
  | k + 1, hk => by
    have hx : l[k]? = some l[k] := List.getElem?_eq_getElem (by omega)
    rw [runR_snoc hx, Nat.succ_mul]
    exact stepR_size (runR_size lim l hl k (by omega)) (hl _ (List.mem_of_getElem? hx))
set_option maxRecDepth 100000 in
set_option maxHeartbeats 8000000 in
theorem all_any (A : Option Addr) (c : Nat) (l : List Op) (limit : Int) (w : World) (h : OpsAt w A l) (hn : l.length * 24 ≤ 140737488351232) (hbig : ∀ o ∈ l, o.s.size ≤ bigM) :
    Calls Try.prog 5 #[.int .i64 limit, .slice A l.length c] w fun e w' => e = .returned (.bool true) ∧ Keep (fun _ => False) w w' := by
  have hb1 := (clampN_bd limit).1
  have hb2 := (clampN_bd limit).2.1
  have HO := Lib.hid h
  clear h
  go_enter Try.func5, Try.ntmps5
  go_wp2_with fail
  refine (few_any A c l w HO hn).mono ?_
  rintro e w2 ⟨fb, rfl, hfb, hk⟩
  have HK2 := Lib.hid hk
  clear hk
  cases fb with
  | false =>
    go_wp2_with fail
    refine (alive_does _).mono ?_
    rintro e w3 ⟨rfl, hk3⟩
    have HK3 : Hid (Keep (fun _ => False) w w3) := Keep.trans HK2 hk3 (fun _ _ h => h)
    clear hk3
    go_wp2_with fail
    exact bodyPost_ret (v := .bool true) (by simp [results, Try.results5, go_sem]) rfl ⟨rfl, HK3⟩
  | true =>
    have hll := hfb rfl
    clear hfb
    go_wp2_with fail
    refine (newS_does limit w2).mono ?_
    rintro e w3 ⟨rfl, hR, hk3⟩
    have HR3 := Lib.hid hR
    have HK3 : Hid (Keep (fun _ => False) w w3) := Keep.trans HK2 hk3 (fun _ _ h => h)
    have hs2 := HK2.out.size
    clear hk3 hR
    go_wp2_with fail
    refine (refNew_does limit w3).mono ?_
    rintro e w4 ⟨rfl, hk4⟩
    have HR4 := Lib.hid (HR3.out.keep hk4 (fun _ _ h => h))
    have HK4 : Hid (Keep (fun _ => False) w w4) := Keep.trans HK3 hk4 (fun _ _ h => h)
    clear hk4 HR3
    go_wp2_with fail
    have b6 : Blk (w4.alloc (.cells #[.int .i64 (clampN limit : Nat), .slice none 0 0, .int .i64 0] 43)) w4.heap.size 43 #[.int .i64 (clampN limit : Nat), .slice none 0 0, .int .i64 0] := Blk.new w4 43 _
    have k46 : Keep (fun _ => False) w4 (w4.alloc (.cells #[.int .i64 (clampN limit : Nat), .slice none 0 0, .int .i64 0] 43)) := (Keep.refl _ w4).alloc _
    generalize w4.alloc (.cells #[.int .i64 (clampN limit : Nat), .slice none 0 0, .int .i64 0] 43) = w6 at *
    have hlt4 := HR4.out.blk.lt
    have HR6 := Lib.hid (HR4.out.keep k46 (fun _ _ h => h))
    have HK6 : Hid (Keep (fun _ => False) w w6) := Keep.trans HK4 k46 (fun _ _ h => h)
    have HB6 := Lib.hid b6
    have hs4 := HK4.out.size
    clear HR4 k46 b6
    generalize hS : w4.heap.size = S at *
    go_loopw [5, 21] (fun p i wr => ∃ (k B : Nat) (A' : Option Addr) (c' : Nat) (A2 : Option Addr) (c2 : Nat), k ≤ l.length ∧ p = .pointer (some ⟨B, 0, none⟩) ∧ i = .int .i64 (k : Nat) ∧ RingS wr B A' c' (clampN limit) (runR (clampN limit) (l.take k)).1 (runR (clampN limit) (l.take k)).2 ∧ Blk wr S 43 #[.int .i64 (clampN limit : Nat), .slice A2 (runR (clampN limit) (l.take k)).1.length c2, .int .i64 ((runR (clampN limit) (l.take k)).2 : Nat)] ∧ StAt wr A2 c2 (runR (clampN limit) (l.take k)).1 ∧ Keep (fun _ => False) w wr ∧ (∀ j, Foot B A' j → w.heap.size ≤ j ∧ j ≠ S) ∧ (∀ g o, A2 = some ⟨g, o, none⟩ → ¬ Foot B A' g ∧ g < wr.heap.size ∧ g ≠ S)) (fun _ i _ => l.length - (intOf i).toNat)
    case atStart => exact ⟨0, w2.heap.size, none, 0, none, 0, by omega, rfl, rfl, by simpa [runR] using HR6.out, by simpa [runR] using HB6.out, ⟨fun i u hu => by simp [runR] at hu, by simp [runR], by omega, fun _ => by simp [runR]⟩, HK6, (by rintro j (rfl | ⟨o, hh⟩) <;> first | exact ⟨hs2, by omega⟩ | cases hh), fun g o h => by cases h⟩
    case round =>
      clear HR6 HB6 HK6 HK4 HK3 HK2 hs2 hlt4
      obtain ⟨k, B, A', c', A2, c2, hk, rfl, rfl, hR, hB, hSt, hK, hft, hsep⟩ := hrel
      have HSEP := Lib.hid hsep
      have HR := Lib.hid hR
      have HB := Lib.hid hB
      have HSt := Lib.hid hSt
      have HK := Lib.hid hK
      have HFT := Lib.hid hft
      clear hR hB hSt hK hft hsep
      by_cases hkl : k < l.length
      · obtain ⟨x, hx⟩ : ∃ x, l[k]? = some x := ⟨_, List.getElem?_eq_getElem hkl⟩
        obtain ⟨bo, oo, rfl, hbo, h0, h1, hsz⟩ := (HO.out.keep HK.out) k x hx
        have hk0 : (0 : Int) ≤ (k : Int) := by omega
        have hk1 : (k : Int) < (l.length : Int) := by omega
        have HX := Lib.hid hx
        clear hx
        have hrs := runR_snoc (lim := clampN limit) HX.out
        have hsize := runR_size (clampN limit) l hbig k hk
        have hxb := hbig x (List.mem_of_getElem? HX.out)
        have hsum : ∀ y ∈ (runR (clampN limit) (l.take k)).1, y.size + x.s.size ≤ 9223372036854775807 := fun y hy => by
          have h8 := hsize y hy
          have h7 : k * bigM ≤ 200 * bigM := Nat.mul_le_mul_right _ (by omega)
          unfold bigM at *
          omega
        have HRS := Lib.hid hrs
        have HSUM := Lib.hid hsum
        clear hrs hsize hsum
        generalize hst : runR (clampN limit) (l.take k) = st at *
        obtain ⟨L, at_⟩ := st
        dsimp only at *
        go_wp2_with fail
        have hkA : Keep (fun _ => False) wr (wr.alloc (.cells #[.int .i64 x.kind, .string x.s] 46)) := (Keep.refl _ wr).alloc _
        have hbx : Blk (wr.alloc (.cells #[.int .i64 x.kind, .string x.s] 46)) wr.heap.size 46 #[.int .i64 x.kind, .string x.s] := Blk.new wr 46 _
        have hz8 : (wr.alloc (.cells #[.int .i64 x.kind, .string x.s] 46)).heap.size = wr.heap.size + 1 := by simp
        generalize wr.alloc (.cells #[.int .i64 x.kind, .string x.s] 46) = W8 at *
        have HR8 := Lib.hid (HR.out.keep hkA (fun _ _ h => h))
        have hB8 := HB.out.keep hkA (fun h => h)
        have HSt8 := Lib.hid (HSt.out.keep hkA)
        have HK8 : Hid (Keep (fun _ => False) w W8) := Keep.trans HK hkA (fun _ _ h => h)
        have hflt := HR.out.lt
        have o0 : W8.cell? ⟨wr.heap.size, 0, none⟩ = some (.int .i64 x.kind) := hbx.cell 0
        have o1 : W8.cell? ⟨wr.heap.size, 1, none⟩ = some (.string x.s) := hbx.cell 1
        have s0 : W8.cell? ⟨S, 0, none⟩ = some (.int .i64 (clampN limit : Nat)) := hB8.cell 0
        have s1 : W8.cell? ⟨S, 1, none⟩ = some (.slice A2 L.length c2) := hB8.cell 1
        have s2 : W8.cell? ⟨S, 2, none⟩ = some (.int .i64 (at_ : Nat)) := hB8.cell 2
        have HB8 := Lib.hid hB8
        have HBX := Lib.hid hbx
        have HFLT := Lib.hid hflt
        have hSl := HB.out.lt
        clear hkA hB8 hbx hflt HR HB HSt HK
        go_region_with ((first
          | (go_at_call 22; refine (does_does x (HR8.out.keep (Keep.drew (Keep.refl (fun _ => False) _)) (fun _ _ h => h)) HSUM.out).mono ?_; rintro e w5 ⟨B5, A5, c5, rfl, hR5, hk5, hft5⟩; have hb5 := (HB8.out.drew).keep hk5 (fun h => (HFT.out _ h).2 rfl); have hx5 := (HBX.out.drew).keep hk5 (fun h => by have := HFLT.out _ h; omega); have o0 : w5.cell? ⟨wr.heap.size, 0, none⟩ = some (.int .i64 x.kind) := hx5.cell 0; have o1 : w5.cell? ⟨wr.heap.size, 1, none⟩ = some (.string x.s) := hx5.cell 1; have s0 : w5.cell? ⟨S, 0, none⟩ = some (.int .i64 (clampN limit : Nat)) := hb5.cell 0; have s1 : w5.cell? ⟨S, 1, none⟩ = some (.slice A2 L.length c2) := hb5.cell 1; have s2 : w5.cell? ⟨S, 2, none⟩ = some (.int .i64 (at_ : Nat)) := hb5.cell 2; have HB5 := Lib.hid hb5; have HR5 := Lib.hid hR5; have HK5 := Lib.hid hk5; have HFT5 := Lib.hid hft5; clear hb5 hx5 hR5 hk5 hft5)
          | (go_at_call 23; refine (refDo_does x (HSt8.out.keepS (Keep.trans ((Keep.refl (Foot B A') W8).drew) HK5.out (fun _ _ h => h)) (fun g o h => (HSEP.out g o h).1)) HR8.out.few HR8.out.most HR8.out.one HR8.out.at_ HSUM.out).mono ?_; rintro e w7 ⟨A7, c7, rfl, hS7, hk7, hsep7⟩; have hb7 := HB5.out.keep hk7 (fun h => h); have s0 : w7.cell? ⟨S, 0, none⟩ = some (.int .i64 (clampN limit : Nat)) := hb7.cell 0; have s1 : w7.cell? ⟨S, 1, none⟩ = some (.slice A2 L.length c2) := hb7.cell 1; have s2 : w7.cell? ⟨S, 2, none⟩ = some (.int .i64 (at_ : Nat)) := hb7.cell 2; have t0 := hb7.frozen 0; have t1 := hb7.frozen 1; have t2 := hb7.frozen 2; have HB7 := Lib.hid hb7; have HS7 := Lib.hid hS7; have HK7 := Lib.hid hk7; have HSEP7 := Lib.hid hsep7; clear hb7 hS7 hk7 hsep7)))
        all_goals
          generalize hst2 : stepR (clampN limit) L at_ x = r at *
          obtain ⟨L', at'⟩ := r
          dsimp only at *
          have hb9 : Blk (((w7.setCell ⟨S, 0, none⟩ (.int .i64 (clampN limit : Nat))).setCell ⟨S, 1, none⟩ (.slice A7 L'.length c7)).setCell ⟨S, 2, none⟩ (.int .i64 (at' : Nat))) S 43 #[.int .i64 (clampN limit : Nat), .slice A7 L'.length c7, .int .i64 (at' : Nat)] := ((HB7.out.set_ 0 _).set_ 1 _).set_ 2 _
          have hk9 : Keep (fun k => k = S) w7 (((w7.setCell ⟨S, 0, none⟩ (.int .i64 (clampN limit : Nat))).setCell ⟨S, 1, none⟩ (.slice A7 L'.length c7)).setCell ⟨S, 2, none⟩ (.int .i64 (at' : Nat))) := (((Keep.refl (fun k => k = S) w7).setCell (p := ⟨S, 0, none⟩) (fun _ => rfl) _).setCell (p := ⟨S, 1, none⟩) (fun _ => rfl) _).setCell (p := ⟨S, 2, none⟩) (fun _ => rfl) _
          generalize (((w7.setCell ⟨S, 0, none⟩ (.int .i64 (clampN limit : Nat))).setCell ⟨S, 1, none⟩ (.slice A7 L'.length c7)).setCell ⟨S, 2, none⟩ (.int .i64 (at' : Nat))) = W9 at *
          have hz8d : W8.drew.heap.size = W8.heap.size := rfl
          have hs57 := HK5.out.size
          have hs79 := hk9.size
          have hs77 := HK7.out.size
          have hft9 : ∀ j, Foot B5 A5 j → w.heap.size ≤ j ∧ j ≠ S := fun j h => (HFT5.out j h).elim (HFT.out j) (fun h => ⟨by omega, by omega⟩)
          have hsep9 : ∀ g o, A7 = some ⟨g, o, none⟩ → ¬ Foot B5 A5 g ∧ g < W9.heap.size ∧ g ≠ S := by
            intro g o hA
            rcases HSEP7.out g o hA with ⟨o', hA2⟩ | ⟨h1, h2⟩
            · obtain ⟨e1, e2, e3⟩ := HSEP.out g o' hA2
              exact ⟨fun hf => (HFT5.out g hf).elim e1 (fun h => by omega), by omega, e3⟩
            · exact ⟨fun hf => by have := HR5.out.lt g hf; omega, by omega, by omega⟩
          have HR9 := Lib.hid ((HR5.out.keep HK7 (fun _ _ h => h)).keep hk9 (fun j hf h => (hft9 j hf).2 h))
          have HS9 := Lib.hid (HS7.out.keepS hk9 (fun g o hA e => (hsep9 g o hA).2.2 e))
          have HK9 : Hid (Keep (fun _ => False) w W9) := Keep.trans (Keep.trans (Keep.trans HK8.out.drew HK5 (fun i hi h => by have := (HFT.out i h).1; omega)) HK7 (fun _ _ h => h)) hk9 (fun i hi h => by omega)
          have HB9 := Lib.hid hb9
          have t0 : W9.cell? ⟨S, 0, none⟩ = some (.int .i64 (clampN limit : Nat)) := hb9.cell 0
          have t1 : W9.cell? ⟨S, 1, none⟩ = some (.slice A7 L'.length c7) := hb9.cell 1
          have t2 : W9.cell? ⟨S, 2, none⟩ = some (.int .i64 (at' : Nat)) := hb9.cell 2
          have HFT9 := Lib.hid hft9
          have HSEP9 := Lib.hid hsep9
          clear hb9 hk9 hft9 hsep9 HR5 HK5 HFT5 HB5 HB7 HS7 HK7 HSEP7
          go_wp2_with fail
          refine (stands_does HR9 HS9).mono ?_
          rintro e w10 ⟨rfl, hk10⟩
          have HR10 := Lib.hid (HR9.out.keep hk10 (fun _ _ h => h))
          have HS10 := Lib.hid (HS9.out.keep hk10)
          have HB10 := Lib.hid (HB9.out.keep hk10 (fun h => h))
          have HK10 : Hid (Keep (fun _ => False) w w10) := Keep.trans HK9 hk10 (fun _ _ h => h)
          have hs10 := hk10.size
          clear hk10 HR9 HS9 HB9 HK9
          go_wp2_with fail
          refine ⟨⟨k + 1, B5, A5, c5, A7, c7, by omega, rfl, by push_cast; rfl, ?_, ?_, ?_, HK10, HFT9, fun g o hA => ⟨(HSEP9.out g o hA).1, Nat.lt_of_lt_of_le (HSEP9.out g o hA).2.1 hs10, (HSEP9.out g o hA).2.2⟩⟩, by simp [intOf]; omega⟩
          · rw [HRS.out]; exact HR10
          · rw [HRS.out]; exact HB10
          · rw [HRS.out]; exact HS10
      · have : k = l.length := by omega
        subst this
        go_wp2_with fail
        refine (alive_does _).mono ?_
        rintro e w9 ⟨rfl, hk9⟩
        have HK9 : Hid (Keep (fun _ => False) w w9) := Keep.trans HK hk9 (fun _ _ h => h)
        clear hk9
        go_wp2_with fail
        exact bodyPost_ret (v := .bool true) (by simp [results, Try.results5, go_sem]) rfl ⟨rfl, HK9⟩
end Go.Proofs.Ytimkbbdncajggaa
