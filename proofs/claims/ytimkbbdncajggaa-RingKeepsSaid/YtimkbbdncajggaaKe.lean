/- RingKeeps walked. -/
import Derived.Test.YtimkbbdncajggaaCS
import Derived.Test.YtimkbbdncajggaaKi
import Derived.Test.YtimkbbdncajggaaRf
namespace Go.Proofs.Ytimkbbdncajggaa
open Go.RowKit Go.BigFrame Go.Shelf
attribute [local go_sem] Oper.semAt_some
theorem turn_mod {n j : Nat} (h : 0 < n) : turnN n (j % n) = (j + 1) % n := by
  have hlt := Nat.mod_lt j h
  rw [← Nat.mod_add_mod]
  unfold turnN
  split
  · next hh =>
    have e : j % n + 1 = n := by omega
    rw [e, Nat.mod_self]
  · next hh => exact (Nat.mod_eq_of_lt (by omega)).symm
set_option maxRecDepth 100000 in
set_option maxHeartbeats 8000000 in
theorem keeps_any (A : Option Addr) (c : Nat) (l : List ByteArray) (limit turns : Int) (w : World) (hl : ReadsAs w A (l.map vals)) :
    Calls Try.prog 4 #[.int .i64 limit, .slice A l.length c, .int .i64 turns] w fun e w' => e = .returned (.bool true) ∧ Keep (fun _ => False) w w' := by
  have HL := Lib.hid hl
  clear hl
  refine (callsIn_wide (n := 1)).1 (callsIn_of_wp_marks Try.func4 rfl trivial ?_ rfl)
  simp only [Try.ntmps4, List.size_toArray, List.length_cons, List.length_nil, Nat.reduceAdd, Nat.reduceSub, Array.replicate_succ, Array.replicate_zero, List.push_toArray, List.append_toArray, List.nil_append, List.cons_append]
  refine wpIn_wide.2 ?_
  by_cases hla : 100 < l.length
  · go_wp2_with fail
    refine (alive_does _).mono ?_
    rintro e w9 ⟨rfl, hk9⟩
    have b9 : Blk w9 (w.heap.size + 1) 4 #[.bool false] := Blk.keep (show Blk ((w.alloc (.cells #[.slice A l.length c] 31)).alloc (.cells #[.bool false] 4)) (w.heap.size + 1) 4 #[.bool false] from by have := Blk.new (w.alloc (.cells #[.slice A l.length c] 31)) 4 #[.bool false]; rwa [World.size_alloc] at this) hk9 (fun h => h)
    have c9 := b9.cell 0
    have f9 := b9.frozen 0
    have d9 := (b9.set_ 0 (.bool true)).cell 0
    have HK9 : Hid (Keep (fun _ => False) w (w9.setCell ⟨w.heap.size + 1, 0, none⟩ (.bool true))) := Keep.setCell (Keep.trans (((Keep.refl (fun _ => False) w).alloc _).alloc _) hk9 (fun _ _ h => h)) (fun h => absurd h (by simp)) _
    clear hk9 b9
    go_wp2_with fail
    have d9' : (w9.setCell ⟨w.heap.size + 1, 0, none⟩ (.bool true)).cell? ⟨w.heap.size + 1, 0, none⟩ = some (.bool true) := d9
    exact ⟨.bool true, by simp [results, Try.results4, go_sem, d9'], rfl, HK9⟩
  by_cases ht0 : turns < 0
  · go_wp2_with fail
    refine (alive_does _).mono ?_
    rintro e w9 ⟨rfl, hk9⟩
    have b9 : Blk w9 (w.heap.size + 1) 4 #[.bool false] := Blk.keep (show Blk ((w.alloc (.cells #[.slice A l.length c] 31)).alloc (.cells #[.bool false] 4)) (w.heap.size + 1) 4 #[.bool false] from by have := Blk.new (w.alloc (.cells #[.slice A l.length c] 31)) 4 #[.bool false]; rwa [World.size_alloc] at this) hk9 (fun h => h)
    have c9 := b9.cell 0
    have f9 := b9.frozen 0
    have d9 := (b9.set_ 0 (.bool true)).cell 0
    have HK9 : Hid (Keep (fun _ => False) w (w9.setCell ⟨w.heap.size + 1, 0, none⟩ (.bool true))) := Keep.setCell (Keep.trans (((Keep.refl (fun _ => False) w).alloc _).alloc _) hk9 (fun _ _ h => h)) (fun h => absurd h (by simp)) _
    clear hk9 b9
    go_wp2_with fail
    have d9' : (w9.setCell ⟨w.heap.size + 1, 0, none⟩ (.bool true)).cell? ⟨w.heap.size + 1, 0, none⟩ = some (.bool true) := d9
    exact ⟨.bool true, by simp [results, Try.results4, go_sem, d9'], rfl, HK9⟩
  by_cases ht1 : 50 < turns
  · go_wp2_with fail
    refine (alive_does _).mono ?_
    rintro e w9 ⟨rfl, hk9⟩
    have b9 : Blk w9 (w.heap.size + 1) 4 #[.bool false] := Blk.keep (show Blk ((w.alloc (.cells #[.slice A l.length c] 31)).alloc (.cells #[.bool false] 4)) (w.heap.size + 1) 4 #[.bool false] from by have := Blk.new (w.alloc (.cells #[.slice A l.length c] 31)) 4 #[.bool false]; rwa [World.size_alloc] at this) hk9 (fun h => h)
    have c9 := b9.cell 0
    have f9 := b9.frozen 0
    have d9 := (b9.set_ 0 (.bool true)).cell 0
    have HK9 : Hid (Keep (fun _ => False) w (w9.setCell ⟨w.heap.size + 1, 0, none⟩ (.bool true))) := Keep.setCell (Keep.trans (((Keep.refl (fun _ => False) w).alloc _).alloc _) hk9 (fun _ _ h => h)) (fun h => absurd h (by simp)) _
    clear hk9 b9
    go_wp2_with fail
    have d9' : (w9.setCell ⟨w.heap.size + 1, 0, none⟩ (.bool true)).cell? ⟨w.heap.size + 1, 0, none⟩ = some (.bool true) := d9
    exact ⟨.bool true, by simp [results, Try.results4, go_sem, d9'], rfl, HK9⟩
  obtain ⟨t, rfl⟩ : ∃ t : Nat, turns = (t : Int) := ⟨turns.toNat, by omega⟩
  have hbd := clampN_bd limit
  go_wp2_with fail
  refine (newS_does limit _).mono ?_
  rintro e w2 ⟨rfl, hR, hk⟩
  rw [World.size_alloc, World.size_alloc] at hR ⊢
  have b0 : Blk w2 w.heap.size 31 #[.slice A l.length c] := Blk.keep ((Blk.new w 31 _).alloc _) hk (fun h => h)
  have b1 : Blk w2 (w.heap.size + 1) 4 #[.bool false] := Blk.keep (by
    have := Blk.new (w.alloc (.cells #[.slice A l.length c] 31)) 4 #[.bool false]
    rwa [World.size_alloc] at this) hk (fun h => h)
  have HK2 : Hid (Keep (fun _ => False) w w2) := Keep.trans (((Keep.refl _ w).alloc _).alloc _) hk (fun _ _ h => h)
  have c0 : w2.cell? ⟨w.heap.size, 0, none⟩ = some (.slice A l.length c) := b0.cell 0
  have HR2 := Lib.hid hR
  have HB0 := Lib.hid b0
  have HB1 := Lib.hid b1
  clear hR hk b0 b1
  go_wp2_with fail
  go_loopw [33] (fun i wr => ∃ (k : Nat) (A' : Option Addr) (c' : Nat), k ≤ l.length ∧ i = .int .i64 (k : Nat) ∧ RingS wr (w.heap.size + 1 + 1) A' c' (clampN limit) (((l.take k).reverse).take (clampN limit)) (if k = 0 then 0 else t % min k (clampN limit)) ∧ Keep (fun _ => False) w wr ∧ (∀ j, Foot (w.heap.size + 1 + 1) A' j → w.heap.size + 1 + 1 ≤ j) ∧ Blk wr w.heap.size 31 #[.slice A l.length c] ∧ Blk wr (w.heap.size + 1) 4 #[.bool false]) (fun i _ => l.length - (intOf i).toNat)
  case atStart => exact ⟨0, none, 0, by omega, rfl, by simpa using HR2.out, HK2, (by rintro j (rfl | ⟨o, h⟩) <;> first | exact Nat.le_refl _ | cases h), HB0, HB1⟩
  case round =>
    clear HR2 HK2 HB0 HB1 c0
    obtain ⟨k, A', c', hk, rfl, hR, hK, hft, hb0, hb1⟩ := hrel
    have HR := Lib.hid hR
    have HK := Lib.hid hK
    have HFT := Lib.hid hft
    have HB0 := Lib.hid hb0
    have HB1 := Lib.hid hb1
    have hbB := hR.blk.lt
    have q0 : wr.cell? ⟨w.heap.size, 0, none⟩ = some (.slice A l.length c) := hb0.cell 0
    clear hR hK hft hb0 hb1
    by_cases hkl : k < l.length
    · obtain ⟨x, hx⟩ : ∃ x, l[k]? = some x := ⟨_, List.getElem?_eq_getElem hkl⟩
      obtain ⟨g, o, rfl, hcell⟩ := (HL.out.keep HK (fun _ _ _ h => h)) k (vals x) (by rw [List.getElem?_map, hx]; rfl)
      have hk0 : (0 : Int) ≤ (k : Int) := by omega
      have hk1 : (k : Int) < (l.length : Int) := by omega
      have HX := Lib.hid hx
      clear hx
      by_cases hxl : 100 < x.size
      · go_wp2_with fail
        refine (alive_does _).mono ?_
        rintro e w9 ⟨rfl, hk9⟩
        have b9 : Blk w9 (w.heap.size + 1) 4 #[.bool false] := Blk.keep HB1 hk9 (fun h => h)
        have c9 := b9.cell 0
        have f9 := b9.frozen 0
        have d9 := (b9.set_ 0 (.bool true)).cell 0
        have HK9 : Hid (Keep (fun _ => False) w (w9.setCell ⟨w.heap.size + 1, 0, none⟩ (.bool true))) := Keep.setCell (Keep.trans HK.out hk9 (fun _ _ h => h)) (fun h => absurd h (by simp)) _
        clear hk9 b9
        go_wp2_with fail
        have d9' : (w9.setCell ⟨w.heap.size + 1, 0, none⟩ (.bool true)).cell? ⟨w.heap.size + 1, 0, none⟩ = some (.bool true) := d9
        exact ⟨.bool true, by simp [results, Try.results4, go_sem, d9'], rfl, HK9⟩
      go_wp2_with fail
      refine (pushS_does HR x).mono ?_
      rintro e w4 ⟨⟨v, rfl⟩, A4, c4, hR4, hk4, hft4⟩
      rw [take_push l HX.out hbd.1] at hR4
      have hL4 : (((l.take (k + 1)).reverse).take (clampN limit)).length = min (k + 1) (clampN limit) := by
        rw [List.length_take, List.length_reverse, List.length_take]
        omega
      have hs := HK.out.size
      have HR4 := Lib.hid hR4
      have HK4 : Hid (Keep (fun _ => False) w w4) := Keep.trans HK hk4 (fun i hi h => by have := HFT.out i h; omega)
      have HB04 := Lib.hid (Blk.keep HB0 hk4 (fun h => by have := HFT.out _ h; omega))
      have HB14 := Lib.hid (Blk.keep HB1 hk4 (fun h => by have := HFT.out _ h; omega))
      have HFT4 : Hid (∀ j, Foot (w.heap.size + 1 + 1) A4 j → w.heap.size + 1 + 1 ≤ j) := fun j h => (hft4 j h).elim (HFT.out j) (fun h => by omega)
      clear hR4 hk4 hft4 HR HK HB0 HB1 HFT q0 hcell
      generalize hLL : ((l.take (k + 1)).reverse).take (clampN limit) = L4 at *
      go_wp2_with fail
      go_loopw [45] (fun i wr2 => ∃ j : Nat, j ≤ t ∧ i = .int .i64 (j : Nat) ∧ RingS wr2 (w.heap.size + 1 + 1) A4 c4 (clampN limit) L4 (j % L4.length) ∧ Keep (fun _ => False) w wr2 ∧ Blk wr2 w.heap.size 31 #[.slice (some ⟨g, o, none⟩) l.length c] ∧ Blk wr2 (w.heap.size + 1) 4 #[.bool false]) (fun i _ => t - (intOf i).toNat)
      case atStart => exact ⟨0, by omega, rfl, by rw [Nat.zero_mod]; exact HR4, HK4, HB04, HB14⟩
      case round =>
        clear HR4 HK4 HB04 HB14
        obtain ⟨j, hj, rfl, hR5, hK5, hb05, hb15⟩ := hrel
        rename_i wr2 _
        have HR5 := Lib.hid hR5
        have HK5 := Lib.hid hK5
        have HB05 := Lib.hid hb05
        have HB15 := Lib.hid hb15
        clear hR5 hK5 hb05 hb15
        by_cases hjt : j < t
        · have hj1 : (j : Int) < (t : Int) := by omega
          go_wp2_with fail
          refine (turnS_does HR5).mono ?_
          rintro e w6 ⟨rfl, hR6, hk6⟩
          rw [turn_mod (by omega)] at hR6
          have HR6 := Lib.hid hR6
          have HK6 : Hid (Keep (fun _ => False) w w6) := Keep.trans HK5 hk6 (fun i hi h => by omega)
          have HB06 := Lib.hid (Blk.keep HB05 hk6 (by omega))
          have HB16 := Lib.hid (Blk.keep HB15 hk6 (by omega))
          clear hR6 hk6 HR5 HK5 HB05 HB15
          go_wp2_with fail
          exact ⟨⟨j + 1, by omega, by push_cast; rfl, HR6, HK6, HB06, HB16⟩, by simp [intOf]; omega⟩
        · have hjj : j = t := by omega
          subst hjj
          go_wp2_with fail
          refine ⟨⟨k + 1, A4, c4, by omega, by push_cast; rfl, ?_, HK5, HFT4, HB05, HB15⟩, by simp [intOf]; omega⟩
          rw [if_neg (by omega), ← hL4]
          exact hLL ▸ HR5.out
    · have : k = l.length := by omega
      subst this
      rw [List.take_length] at HR
      go_wp2_with (first | (with_reducible refine wpList_it ?_; refine wpList_min_one rfl _ _ _ rfl _ _ rfl rfl ?_) | (with_reducible refine wpList_it ?_; refine wpList_max_one rfl _ _ _ rfl _ _ rfl rfl ?_))
      refine (allS_does _ _).mono ?_
      rintro e w5 ⟨rfl, rfl⟩
      go_wp2_with fail
      generalize hNN : min (l.length : Int) (max (min limit 64) 1) = N at *
      have hN : N = ((min l.length (clampN limit) : Nat) : Int) := by
        rw [← hNN, clamp_other]
        omega
      have HN := Lib.hid hN
      clear hN
      have kW : Keep (fun _ => False) wr ((wr.alloc (.cells #[.int .i64 N] 3)).alloc (.cells #[.pointer (some ⟨w.heap.size + 1 + 1, 0, none⟩)] 32)) := ((Keep.refl _ wr).alloc _).alloc _
      have zW : ((wr.alloc (.cells #[.int .i64 N] 3)).alloc (.cells #[.pointer (some ⟨w.heap.size + 1 + 1, 0, none⟩)] 32)).heap.size = wr.heap.size + 2 := by simp
      have bN : Blk ((wr.alloc (.cells #[.int .i64 N] 3)).alloc (.cells #[.pointer (some ⟨w.heap.size + 1 + 1, 0, none⟩)] 32)) wr.heap.size 3 #[.int .i64 N] := (Blk.new wr 3 _).alloc _
      have bA : Blk ((wr.alloc (.cells #[.int .i64 N] 3)).alloc (.cells #[.pointer (some ⟨w.heap.size + 1 + 1, 0, none⟩)] 32)) (wr.heap.size + 1) 32 #[.pointer (some ⟨w.heap.size + 1 + 1, 0, none⟩)] := by
        have := Blk.new (wr.alloc (.cells #[.int .i64 N] 3)) 32 #[.pointer (some ⟨w.heap.size + 1 + 1, 0, none⟩)]
        rwa [World.size_alloc] at this
      generalize ((wr.alloc (.cells #[.int .i64 N] 3)).alloc (.cells #[.pointer (some ⟨w.heap.size + 1 + 1, 0, none⟩)] 32)) = W0 at *
      have HR0 := Lib.hid (HR.out.keep kW (fun _ _ h => h))
      have HK0 : Hid (Keep (fun _ => False) w W0) := Keep.trans HK kW (fun _ _ h => h)
      have HB00 := Lib.hid (Blk.keep HB0 kW (fun h => h))
      have HB10 := Lib.hid (Blk.keep HB1 kW (fun h => h))
      have HBN := Lib.hid bN
      have hLl : (l.reverse.take (clampN limit)).length = min l.length (clampN limit) := by rw [List.length_take, List.length_reverse]; omega
      have hRl := HR0.out.lt
      have hget : ∀ k, k < min l.length (clampN limit) → ∃ x2, (l.reverse.take (clampN limit))[k]? = some x2 ∧ l[l.length - 1 - k]? = some x2 := by
        intro k hk
        refine ⟨_, List.getElem?_eq_getElem (by omega), ?_⟩
        rw [← List.getElem?_eq_getElem, List.getElem?_take_of_lt (by omega), List.getElem?_reverse (by omega)]
      have HG := Lib.hid hget
      clear HR HK HB0 HB1 kW bN q0 hget
      refine wp_range (gf := 33) (lb := #[.pointer (some ⟨wr.heap.size + 1, 0, none⟩)]) (T := fun _ => False) rfl (enters_of Try.func33 (by kernel_rfl) rfl)
        (all1S_gives _ HR0 bA (fun h => h) (fun _ _ h => h)) (fun _ => rfl) (fun h => h) (fun h => h) (fun _ W => Keep (fun _ => False) W0 W) (fun _ _ _ => False)
        (fun _ X Y h ht => Turns.keep ht h (Nat.le_refl _)) (fun _ _ _ _ h _ => h) (fun pre x X Y h _ => h) (Keep.refl _ _)
        (fun x => { tmps := #[.int .i64 limit, .slice A l.length c, .int .i64 (t : Nat), undef, .pointer (some ⟨w.heap.size, 0, none⟩), undef, .pointer (some ⟨w.heap.size + 1, 0, none⟩), .pointer (some ⟨w.heap.size + 1 + 1, 0, none⟩), undef, u9, .pointer (some ⟨wr.heap.size, 0, none⟩), .int .i64 (x.1 : Nat), vals x.2, undef, undef, .slice A l.length c, .int .i64 (l.length : Nat), .bool (decide ((100 : Int) < (l.length : Nat))), .bool (decide ((100 : Int) < (l.length : Nat))), .int .i64 (t : Nat), .bool false, .bool (decide ((100 : Int) < (l.length : Nat))), .bool (decide ((100 : Int) < (l.length : Nat))), .int .i64 (t : Nat), .bool false, .bool (decide ((100 : Int) < (l.length : Nat))), undef, .int .i64 limit, .pointer (some ⟨w.heap.size + 1 + 1, 0, none⟩), .pointer (some ⟨w.heap.size + 1 + 1, 0, none⟩), .bool false, .slice A l.length c, .int .i64 (l.length : Nat), .int .i64 (l.length : Nat), .bool false, u35, u36, u37, u38, u39, u40, u41, u42, u43, u44, u45, u46, u47, u48, u49, u50, .slice A l.length c, .int .i64 (l.length : Nat), .int .i64 limit, .int .i64 (min limit 64), .int .i64 (max (min limit 64) 1), .int .i64 N, .pointer (some ⟨w.heap.size + 1 + 1, 0, none⟩), .func (.func 33) #[] #[.pointer (some ⟨wr.heap.size + 1, 0, none⟩)], .int .i64 (x.1 : Nat), vals x.2, undef, undef, undef, undef, undef, undef, undef, undef, undef, undef, undef, undef, undef, undef, undef, undef, undef, undef, undef, undef, undef, undef, undef, undef, undef, undef, undef, undef, undef, undef, undef, undef, undef, undef, undef, undef, undef, undef, undef, undef, undef, undef, undef, undef, undef, undef, undef, undef, undef, undef, undef], defers := [] }) ?assign ?body ?done ?stop
      case assign =>
        intro m x W K hK
        gi_wp2
        exact hK
      case stop =>
        rintro D cc pre W _ _ h _
        exact h.elim
      case body =>
        rintro m pre x W hK ⟨hx1, hx2⟩ hlt
        obtain ⟨x1, x2⟩ := x
        simp only at hx1 hx2
        subst hx1
        have hpl := (List.getElem?_eq_some_iff.1 hx2).1
        rw [hLl] at hpl
        have hx3 : l[l.length - 1 - pre.length]? = some x2 := by
          obtain ⟨x3, h3, h4⟩ := HG.out pre.length hpl
          rw [h3] at hx2
          cases hx2
          exact h4
        obtain ⟨g, o, rfl, hcell⟩ := (HL.out.keep (Keep.trans HK0 hK (fun _ _ h => h)) (fun _ _ _ h => h)) (l.length - 1 - pre.length) (vals x2) (by rw [List.getElem?_map, hx3]; rfl)
        have q8 : W.cell? ⟨wr.heap.size, 0, none⟩ = some (.int .i64 N) := (Blk.keep HBN hK (fun h => h)).cell 0
        have q3 : W.cell? ⟨w.heap.size, 0, none⟩ = some (.slice (some ⟨g, o, none⟩) l.length c) := (Blk.keep HB00 hK (fun h => h)).cell 0
        have j0 : ¬ N ≤ (pre.length : Int) := by rw [HN.out]; omega
        have j1 : (l.length : Int) - 1 - (pre.length : Int) = ((l.length - 1 - pre.length : Nat) : Int) := by omega
        have j2 : l.length - 1 - pre.length < l.length := by omega
        have HKb := Lib.hid hK
        clear hK hx2 hx3
        gi_wp2_with fail
        exact ⟨Keep.refl _ W, HKb⟩
      case done =>
        rintro D xs W hD hxs hK hKD
        have hDl := (Array.getElem?_eq_some_iff.1 hKD).1
        have HKD := Lib.hid hKD
        have HKW : Hid (Keep (fun _ => False) W0 W) := hK
        have hws := HK0.out.size
        have hbn := HBN.out.lt
        clear hK hKD hxs
        go_wp2_with fail
        refine (topS_does (HR0.out.keep HKW (fun _ _ h => h))).mono ?_
        rintro e w4 ⟨rfl, hk4⟩
        have HK4 : Hid (Keep (fun _ => False) W0 w4) := Keep.trans HKW hk4 (fun _ _ h => h)
        have hDl4 : D < w4.heap.size := by have := hk4.size; omega
        have HKD4 : Hid (w4.heap[D]? = some (.deferred (some []))) := (hk4.block D hDl (fun h => h)).trans HKD
        clear hk4 HKW HKD
        by_cases hn0 : l.length = 0
        · have hl0 : l = [] := List.eq_nil_of_length_eq_zero hn0
          subst hl0
          have hN0 : N = 0 := by rw [HN.out]; simp
          subst hN0
          go_wp2_with fail
          refine region_first_tail 30 (by kernel_rfl) (by kernel_rfl) (by kernel_rfl) (by kernel_rfl) (fun K hK => ?_)
          go_simp
          refine (alive_does _).mono ?_
          rintro e w5 ⟨rfl, hk5⟩
          have hK05 : Keep (fun _ => False) W0 w5 := Keep.trans HK4.out.drew hk5 (fun _ _ h => h)
          have HR5 := Lib.hid (HR0.out.keep hK05 (fun _ _ h => h))
          have hB5 : Blk w5 (w.heap.size + 1) 4 #[.bool false] := Blk.keep HB10 hK05 (fun h => h)
          have q9 : w5.cell? ⟨wr.heap.size, 0, none⟩ = some (.int .i64 0) := (Blk.keep HBN hK05 (fun h => h)).cell 0
          have q3 : w5.cell? ⟨w.heap.size, 0, none⟩ = some (.slice A 0 c) := (Blk.keep HB00 hK05 (fun h => h)).cell 0
          have f5 := hB5.frozen 0
          have e5 := hB5.cell 0
          have hKD5 : w5.heap[D]? = some (.deferred (some [])) := (hk5.block D hDl4 (fun h => h)).trans HKD4
          have hK5 : Keep (fun _ => False) w (w5.setCell ⟨w.heap.size + 1, 0, none⟩ (.bool true)) := (Keep.trans HK0 hK05 (fun _ _ h => h)).setCell (fun h => absurd h (by simp)) _
          have hB6 : Blk (w5.setCell ⟨w.heap.size + 1, 0, none⟩ (.bool true)) (w.heap.size + 1) 4 #[.bool true] := hB5.set_ 0 _
          have hDn : D ≠ w.heap.size + 1 := by
            rintro rfl
            have h1 : w5.heap[w.heap.size + 1]? = some _ := hB5
            rw [h1] at hKD5
            cases hKD5
          have hKD6 : (w5.setCell ⟨w.heap.size + 1, 0, none⟩ (.bool true)).heap[D]? = some (.deferred (some [])) := (Below.heap_setCell w5 ⟨w.heap.size + 1, 0, none⟩ (.bool true) D (by simpa using hDn)).trans hKD5
          have HK5 := Lib.hid hK5
          have HB6 := Lib.hid hB6
          have HKD6 := Lib.hid hKD6
          have HLEN : Calls Try.prog 19 #[.pointer (some ⟨w.heap.size + 1 + 1, 0, none⟩)] w5 fun e w' => e = .returned (.int .i64 0) ∧ w' = w5 := by
            have := lenS_does HR5.out
            rw [hLl] at this
            simpa using this
          clear hk5 hB5 hKD5 hK5 hB6 hKD6 HKD4 HK4 hK05
          refine hK _ _ ?_
          clear hK K
          simp only [List.take, List.drop]
          repeat (first | go_big_quiet_step (fail) | (go_big_quiet_want; go_big_quiet_op; refine ⟨_, HLEN, ?_⟩; go_big_quiet_on))
          refine wpQuiet_nil ?_
          go_wp2_with fail
          have ht : Turns (w.heap.size + 2) (w5.setCell ⟨w.heap.size + 1, 0, none⟩ (.bool true)) ((w5.setCell ⟨w.heap.size + 1, 0, none⟩ (.bool true)).putObj D (.deferred none)) := Turns.put (by omega) HKD6.out rfl
          have q1' : ((w5.setCell ⟨w.heap.size + 1, 0, none⟩ (.bool true)).putObj D (.deferred none)).cell? ⟨w.heap.size + 1, 0, none⟩ = some (.bool true) := (Turns.blk ht HB6).cell 0
          refine ⟨by simp, .inl ⟨_, _, rfl, run_takeDeferred HKD6, ?_⟩⟩
          exact ⟨.bool true, by simp [results, Try.results4, go_sem, q1'], rfl, Turns.keep ht HK5 (by omega)⟩
        · have hnp : 0 < min l.length (clampN limit) := by omega
          obtain ⟨x2, hx3, hx4⟩ := HG.out (t % min l.length (clampN limit)) (Nat.mod_lt _ hnp)
          have htop : topS (l.reverse.take (clampN limit)) (t % min l.length (clampN limit)) = x2 := by unfold topS; rw [hx3]; rfl
          have hb : decide (0 < (l.reverse.take (clampN limit)).length) = true := by rw [hLl]; exact decide_eq_true hnp
          simp only [if_neg hn0, htop, hb]
          have hNp : 0 < N := by rw [HN.out]; omega
          have hN0 : ¬ N = 0 := by omega
          have hNb : (N == 0) = false := by simpa using hN0
          have jr : (t : Int).tmod N = ((t % min l.length (clampN limit) : Nat) : Int) := by rw [HN.out]; rfl
          have hml := Nat.mod_lt t hnp
          generalize t % min l.length (clampN limit) = r at *
          have j1 : (l.length : Int) - 1 - (r : Int) = ((l.length - 1 - r : Nat) : Int) := by omega
          have j2 : l.length - 1 - r < l.length := by omega
          have HX4 := Lib.hid hx4
          clear hx3 hx4 htop
          obtain ⟨g, o, rfl, hcellW⟩ := (HL.out.keep HK0 (fun _ _ _ h => h)) (l.length - 1 - r) (vals x2) (by rw [List.getElem?_map, HX4.out]; rfl)
          have HCW := Lib.hid hcellW
          clear hcellW
          go_wp2_with fail
          refine region_first_tail 30 (by kernel_rfl) (by kernel_rfl) (by kernel_rfl) (by kernel_rfl) (fun K hK => ?_)
          go_simp
          refine (alive_does _).mono ?_
          rintro e w5 ⟨rfl, hk5⟩
          have hK05 : Keep (fun _ => False) W0 w5 := Keep.trans HK4.out.drew hk5 (fun _ _ h => h)
          have HR5 := Lib.hid (HR0.out.keep hK05 (fun _ _ h => h))
          have hB5 : Blk w5 (w.heap.size + 1) 4 #[.bool false] := Blk.keep HB10 hK05 (fun h => h)
          have q9 : w5.cell? ⟨wr.heap.size, 0, none⟩ = some (.int .i64 N) := (Blk.keep HBN hK05 (fun h => h)).cell 0
          have q3 : w5.cell? ⟨w.heap.size, 0, none⟩ = some (.slice (some ⟨g, o, none⟩) l.length c) := (Blk.keep HB00 hK05 (fun h => h)).cell 0
          have f5 := hB5.frozen 0
          have e5 := hB5.cell 0
          have hKD5 : w5.heap[D]? = some (.deferred (some [])) := (hk5.block D hDl4 (fun h => h)).trans HKD4
          have hK5 : Keep (fun _ => False) w (w5.setCell ⟨w.heap.size + 1, 0, none⟩ (.bool true)) := (Keep.trans HK0 hK05 (fun _ _ h => h)).setCell (fun h => absurd h (by simp)) _
          have hB6 : Blk (w5.setCell ⟨w.heap.size + 1, 0, none⟩ (.bool true)) (w.heap.size + 1) 4 #[.bool true] := hB5.set_ 0 _
          have hDn : D ≠ w.heap.size + 1 := by
            rintro rfl
            have h1 : w5.heap[w.heap.size + 1]? = some _ := hB5
            rw [h1] at hKD5
            cases hKD5
          have hKD6 : (w5.setCell ⟨w.heap.size + 1, 0, none⟩ (.bool true)).heap[D]? = some (.deferred (some [])) := (Below.heap_setCell w5 ⟨w.heap.size + 1, 0, none⟩ (.bool true) D (by simpa using hDn)).trans hKD5
          have HK5 := Lib.hid hK5
          have HB6 := Lib.hid hB6
          have HKD6 := Lib.hid hKD6
          have HLEN : Calls Try.prog 19 #[.pointer (some ⟨w.heap.size + 1 + 1, 0, none⟩)] w5 fun e w' => e = .returned (.int .i64 N) ∧ w' = w5 := by
            have := lenS_does HR5.out
            rw [hLl, ← HN.out] at this
            exact this
          have hcell5 : w5.cell? ⟨g, o + (l.length - 1 - r), none⟩ = some (vals x2) := (Keep.cell hK05 (World.block_lt_of_cell? W0 _ HCW) (fun h => h)).trans HCW
          clear hk5 hB5 hKD5 hK5 hB6 hKD6 HKD4 HK4 hK05
          refine hK _ _ ?_
          clear hK K
          simp only [List.take, List.drop]
          repeat (first | go_big_quiet_step (fail) | (go_big_quiet_want; go_big_quiet_op; refine ⟨_, HLEN, ?_⟩; go_big_quiet_on))
          refine wpQuiet_nil ?_
          go_wp2_with fail
          have ht : Turns (w.heap.size + 2) (w5.setCell ⟨w.heap.size + 1, 0, none⟩ (.bool true)) ((w5.setCell ⟨w.heap.size + 1, 0, none⟩ (.bool true)).putObj D (.deferred none)) := Turns.put (by omega) HKD6.out rfl
          have q1' : ((w5.setCell ⟨w.heap.size + 1, 0, none⟩ (.bool true)).putObj D (.deferred none)).cell? ⟨w.heap.size + 1, 0, none⟩ = some (.bool true) := (Turns.blk ht HB6).cell 0
          refine ⟨by simp, .inl ⟨_, _, rfl, run_takeDeferred HKD6, ?_⟩⟩
          exact ⟨.bool true, by simp [results, Try.results4, go_sem, q1'], rfl, Turns.keep ht HK5 (by omega)⟩
end Go.Proofs.Ytimkbbdncajggaa
