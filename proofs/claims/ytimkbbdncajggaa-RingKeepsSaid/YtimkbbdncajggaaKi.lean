/- RingKinds walked. -/
import Derived.Test.YtimkbbdncajggaaAv
import Derived.Test.YtimkbbdncajggaaMi
namespace Go.Proofs.Ytimkbbdncajggaa
open Go.RowKit Go.BigFrame Go.Shelf
attribute [local go_sem] Oper.semAt_some
theorem take_push {α : Type} (l : List α) {k lim : Nat} {x : α} (hx : l[k]? = some x) (h1 : 1 ≤ lim) : (x :: ((l.take k).reverse).take lim).take lim = ((l.take (k + 1)).reverse).take lim := by
  obtain ⟨hk, he⟩ := List.getElem?_eq_some_iff.1 hx
  rw [List.take_succ_eq_append_getElem hk, he, List.reverse_append, List.reverse_singleton, List.singleton_append]
  obtain ⟨m, rfl⟩ : ∃ m, lim = m + 1 := ⟨lim - 1, by omega⟩
  rw [List.take_succ_cons, List.take_succ_cons, List.take_take]
  congr 2
  omega
theorem clamp_other (limit : Int) : max (min limit 64) 1 = (clampN limit : Int) := by
  have := clampN_bd limit
  omega
set_option maxRecDepth 100000 in
set_option maxHeartbeats 8000000 in
theorem kinds_any (A : Option Addr) (c : Nat) (l : List Int) (limit : Int) (w : World) (hl : ReadsAs w A (l.map vali)) :
    Calls Try.prog 3 #[.int .i64 limit, .slice A l.length c] w fun e w' => e = .returned (.bool true) ∧ Keep (fun _ => False) w w' := by
  have HL := Lib.hid hl
  clear hl
  refine (callsIn_wide (n := 1)).1 (callsIn_of_wp_marks Try.func3 rfl trivial ?_ rfl)
  simp only [Try.ntmps3, List.size_toArray, List.length_cons, List.length_nil, Nat.reduceAdd, Nat.reduceSub, Array.replicate_succ, Array.replicate_zero, List.push_toArray, List.append_toArray, List.nil_append, List.cons_append]
  refine wpIn_wide.2 ?_
  by_cases hla : 200 < l.length
  · go_wp2_with fail
    refine (alive_does _).mono ?_
    rintro e w2 ⟨rfl, hk⟩
    have b1 : Blk w2 (w.heap.size + 1) 4 #[.bool false] := Blk.keep (by
      have := Blk.new (w.alloc (.cells #[.slice A l.length c] 22)) 4 #[.bool false]
      rwa [World.size_alloc] at this) hk (fun h => h)
    have c1 := b1.cell 0
    have f1 := b1.frozen 0
    have HK : Hid (Keep (fun _ => False) w w2) := Keep.trans (((Keep.refl _ w).alloc _).alloc _) hk (fun _ _ h => h)
    have c2 := (b1.set_ 0 (.bool true)).cell 0
    have HK2 : Hid (Keep (fun _ => False) w (w2.setCell ⟨w.heap.size + 1, 0, none⟩ (.bool true))) := Keep.setCell HK (fun h => absurd h (by simp)) _
    clear hk b1
    go_wp2_with fail
    have c2' : (w2.setCell ⟨w.heap.size + 1, 0, none⟩ (.bool true)).cell? ⟨w.heap.size + 1, 0, none⟩ = some (.bool true) := c2
    exact ⟨.bool true, by simp [results, Try.results3, go_sem, c2'], rfl, HK2⟩
  have hbd := clampN_bd limit
  go_wp2_with fail
  refine (newI_does limit _).mono ?_
  rintro e w2 ⟨rfl, hR, hk⟩
  rw [World.size_alloc, World.size_alloc] at hR ⊢
  have b0 : Blk w2 w.heap.size 22 #[.slice A l.length c] := Blk.keep ((Blk.new w 22 _).alloc _) hk (fun h => h)
  have b1 : Blk w2 (w.heap.size + 1) 4 #[.bool false] := Blk.keep (by
    have := Blk.new (w.alloc (.cells #[.slice A l.length c] 22)) 4 #[.bool false]
    rwa [World.size_alloc] at this) hk (fun h => h)
  have HK2 : Hid (Keep (fun _ => False) w w2) := Keep.trans (((Keep.refl _ w).alloc _).alloc _) hk (fun _ _ h => h)
  have c0 : w2.cell? ⟨w.heap.size, 0, none⟩ = some (.slice A l.length c) := b0.cell 0
  have HR2 := Lib.hid hR
  have HB0 := Lib.hid b0
  have HB1 := Lib.hid b1
  clear hR hk b0 b1
  go_wp2_with fail
  go_loopw [21] (fun i wr => ∃ (k : Nat) (A' : Option Addr) (c' : Nat), k ≤ l.length ∧ i = .int .i64 (k : Nat) ∧ RingI wr (w.heap.size + 1 + 1) A' c' (clampN limit) (((l.take k).reverse).take (clampN limit)) 0 ∧ Keep (fun _ => False) w wr ∧ (∀ j, Foot (w.heap.size + 1 + 1) A' j → w.heap.size + 1 + 1 ≤ j) ∧ Blk wr w.heap.size 22 #[.slice A l.length c] ∧ Blk wr (w.heap.size + 1) 4 #[.bool false]) (fun i _ => l.length - (intOf i).toNat)
  case atStart => exact ⟨0, none, 0, by omega, rfl, by simpa using HR2.out, HK2, (by rintro j (rfl | ⟨o, h⟩) <;> first | exact Nat.le_refl _ | cases h), HB0, HB1⟩
  case round =>
    clear HR2 HK2 HB0 HB1 c0
    obtain ⟨k, A', c', hk, rfl, hR, hK, hft, hb0, hb1⟩ := hrel
    have HR := Lib.hid hR
    have HK := Lib.hid hK
    have HFT := Lib.hid hft
    have HB0 := Lib.hid hb0
    have HB1 := Lib.hid hb1
    have hbB := hR.blk.lt
    have q0 : wr.cell? ⟨w.heap.size, 0, none⟩ = some (.slice A l.length c) := hb0.cell 0
    clear hR hK hft hb0 hb1
    by_cases hkl : k < l.length
    · obtain ⟨x, hx⟩ : ∃ x, l[k]? = some x := ⟨_, List.getElem?_eq_getElem hkl⟩
      obtain ⟨g, o, rfl, hcell⟩ := (HL.out.keep HK (fun _ _ _ h => h)) k (vali x) (by rw [List.getElem?_map, hx]; rfl)
      have hk0 : (0 : Int) ≤ (k : Int) := by omega
      have hk1 : (k : Int) < (l.length : Int) := by omega
      have HX := Lib.hid hx
      clear hx
      go_wp2_with fail
      refine (pushI_does HR x).mono ?_
      rintro e w4 ⟨⟨v, rfl⟩, A4, c4, hR4, hk4, hft4⟩
      rw [take_push l HX.out hbd.1] at hR4
      have HR4 := Lib.hid hR4
      have hs := HK.out.size
      have HK4 : Hid (Keep (fun _ => False) w w4) := Keep.trans HK hk4 (fun i hi h => by have := HFT.out i h; omega)
      have HB04 := Lib.hid (Blk.keep HB0 hk4 (fun h => by have := HFT.out _ h; omega))
      have HB14 := Lib.hid (Blk.keep HB1 hk4 (fun h => by have := HFT.out _ h; omega))
      have HFT4 : Hid (∀ j, Foot (w.heap.size + 1 + 1) A4 j → w.heap.size + 1 + 1 ≤ j) := fun j h => (hft4 j h).elim (HFT.out j) (fun h => by omega)
      clear hR4 hk4 hft4
      go_wp2_with fail
      exact ⟨⟨k + 1, A4, c4, by omega, by push_cast; rfl, HR4, HK4, HFT4, HB04, HB14⟩, by simp [intOf]; omega⟩
    · have : k = l.length := by omega
      subst this
      rw [List.take_length] at HR
      go_wp2_with (first | (with_reducible refine wpList_it ?_; refine wpList_min_one rfl _ _ _ rfl _ _ rfl rfl ?_) | (with_reducible refine wpList_it ?_; refine wpList_max_one rfl _ _ _ rfl _ _ rfl rfl ?_))
      refine (allI_does _ _).mono ?_
      rintro e w5 ⟨rfl, rfl⟩
      go_wp2_with fail
      generalize hNN : min (l.length : Int) (max (min limit 64) 1) = N at *
      have hN : N = ((min l.length (clampN limit) : Nat) : Int) := by
        rw [← hNN, clamp_other]
        omega
      have HN := Lib.hid hN
      clear hN
      have kW : Keep (fun _ => False) wr ((wr.alloc (.cells #[.int .i64 N] 3)).alloc (.cells #[.pointer (some ⟨w.heap.size + 1 + 1, 0, none⟩)] 24)) := ((Keep.refl _ wr).alloc _).alloc _
      have zW : ((wr.alloc (.cells #[.int .i64 N] 3)).alloc (.cells #[.pointer (some ⟨w.heap.size + 1 + 1, 0, none⟩)] 24)).heap.size = wr.heap.size + 2 := by simp
      have bN : Blk ((wr.alloc (.cells #[.int .i64 N] 3)).alloc (.cells #[.pointer (some ⟨w.heap.size + 1 + 1, 0, none⟩)] 24)) wr.heap.size 3 #[.int .i64 N] := (Blk.new wr 3 _).alloc _
      have bA : Blk ((wr.alloc (.cells #[.int .i64 N] 3)).alloc (.cells #[.pointer (some ⟨w.heap.size + 1 + 1, 0, none⟩)] 24)) (wr.heap.size + 1) 24 #[.pointer (some ⟨w.heap.size + 1 + 1, 0, none⟩)] := by
        have := Blk.new (wr.alloc (.cells #[.int .i64 N] 3)) 24 #[.pointer (some ⟨w.heap.size + 1 + 1, 0, none⟩)]
        rwa [World.size_alloc] at this
      generalize ((wr.alloc (.cells #[.int .i64 N] 3)).alloc (.cells #[.pointer (some ⟨w.heap.size + 1 + 1, 0, none⟩)] 24)) = W0 at *
      have HR0 := Lib.hid (HR.out.keep kW (fun _ _ h => h))
      have HK0 : Hid (Keep (fun _ => False) w W0) := Keep.trans HK kW (fun _ _ h => h)
      have HB00 := Lib.hid (Blk.keep HB0 kW (fun h => h))
      have HB10 := Lib.hid (Blk.keep HB1 kW (fun h => h))
      have HBN := Lib.hid bN
      have hLl : (l.reverse.take (clampN limit)).length = min l.length (clampN limit) := by rw [List.length_take, List.length_reverse]; omega
      have hRl := HR0.out.lt
      clear HR HK HB0 HB1 kW bN q0
      refine wp_range (gf := 32) (lb := #[.pointer (some ⟨wr.heap.size + 1, 0, none⟩)]) (T := fun _ => False) rfl (enters_of Try.func32 (by kernel_rfl) rfl)
        (all1I_gives _ HR0 bA (fun h => h) (fun _ _ h => h)) (fun _ => rfl) (fun h => h) (fun h => h) (fun _ W => Keep (fun _ => False) W0 W) (fun _ _ _ => False)
        (fun _ X Y h ht => Turns.keep ht h (Nat.le_refl _)) (fun _ _ _ _ h _ => h) (fun pre x X Y h _ => h) (Keep.refl _ _)
        (fun x => { tmps := #[.int .i64 limit, .slice A l.length c, undef, .pointer (some ⟨w.heap.size, 0, none⟩), .pointer (some ⟨w.heap.size + 1, 0, none⟩), .pointer (some ⟨w.heap.size + 1 + 1, 0, none⟩), undef, u7, .pointer (some ⟨wr.heap.size, 0, none⟩), .int .i64 (x.1 : Nat), vali x.2, .slice A l.length c, .int .i64 (l.length : Nat), .bool (decide ((200 : Int) < (l.length : Nat))), undef, .int .i64 limit, .pointer (some ⟨w.heap.size + 1 + 1, 0, none⟩), .pointer (some ⟨w.heap.size + 1 + 1, 0, none⟩), .bool false, .slice A l.length c, .int .i64 (l.length : Nat), .int .i64 (l.length : Nat), .bool false, u23, u24, u25, u26, u27, u28, .slice A l.length c, .int .i64 (l.length : Nat), .int .i64 limit, .int .i64 (min limit 64), .int .i64 (max (min limit 64) 1), .int .i64 N, .pointer (some ⟨w.heap.size + 1 + 1, 0, none⟩), .func (.func 32) #[] #[.pointer (some ⟨wr.heap.size + 1, 0, none⟩)], .int .i64 (x.1 : Nat), vali x.2, undef, undef, undef, undef, undef, undef, undef, undef, undef, undef, undef, undef, undef, undef, undef, undef, undef, undef, undef, undef, undef, undef], defers := [] }) ?assign ?body ?done ?stop
      case assign =>
        intro m x W K hK
        gi_wp2
        exact hK
      case stop =>
        rintro D cc pre W _ _ h _
        exact h.elim
      case body =>
        rintro m pre x W hK ⟨hx1, hx2⟩ hlt
        obtain ⟨x1, x2⟩ := x
        simp only at hx1 hx2
        subst hx1
        have hpl := (List.getElem?_eq_some_iff.1 hx2).1
        rw [hLl] at hpl
        have hx3 : l[l.length - 1 - pre.length]? = some x2 := by
          rw [List.getElem?_take_of_lt (by omega), List.getElem?_reverse (by omega)] at hx2
          exact hx2
        obtain ⟨g, o, rfl, hcell⟩ := (HL.out.keep (Keep.trans HK0 hK (fun _ _ h => h)) (fun _ _ _ h => h)) (l.length - 1 - pre.length) (vali x2) (by rw [List.getElem?_map, hx3]; rfl)
        have q8 : W.cell? ⟨wr.heap.size, 0, none⟩ = some (.int .i64 N) := (Blk.keep HBN hK (fun h => h)).cell 0
        have q3 : W.cell? ⟨w.heap.size, 0, none⟩ = some (.slice (some ⟨g, o, none⟩) l.length c) := (Blk.keep HB00 hK (fun h => h)).cell 0
        have j0 : ¬ N ≤ (pre.length : Int) := by rw [HN.out]; omega
        have j1 : (l.length : Int) - 1 - (pre.length : Int) = ((l.length - 1 - pre.length : Nat) : Int) := by omega
        have j2 : l.length - 1 - pre.length < l.length := by omega
        have HKb := Lib.hid hK
        clear hK hx2 hx3
        gi_wp2_with fail
        exact ⟨Keep.refl _ W, HKb⟩
      case done =>
        rintro D xs W hD hxs hK hKD
        have hDl := (Array.getElem?_eq_some_iff.1 hKD).1
        have HKD := Lib.hid hKD
        have HKW : Hid (Keep (fun _ => False) W0 W) := hK
        have hws := HK0.out.size
        have hbn := HBN.out.lt
        clear hK hKD hxs
        go_wp2_with fail
        refine wp_region_any (by kernel_rfl) ?_
        change wpAny _ _ _ _ _ _ _ (World.drew _)
        refine wpAny_ready (rs := [0]) (by kernel_rfl) (by simp) (AllReady.cons rfl (fun K hK => ?_) AllReady.nil)
        go_simp
        refine (alive_does _).mono ?_
        rintro e w5 ⟨rfl, hk5⟩
        have hK05 : Keep (fun _ => False) W0 w5 := Keep.trans HKW.out.drew hk5 (fun _ _ h => h)
        have HR5 := Lib.hid (HR0.out.keep hK05 (fun _ _ h => h))
        have hB5 : Blk w5 (w.heap.size + 1) 4 #[.bool false] := Blk.keep HB10 hK05 (fun h => h)
        have q9 : w5.cell? ⟨wr.heap.size, 0, none⟩ = some (.int .i64 N) := (Blk.keep HBN hK05 (fun h => h)).cell 0
        have f5 := hB5.frozen 0
        have e5 := hB5.cell 0
        have hKD5 : w5.heap[D]? = some (.deferred (some [])) := (hk5.block D hDl (fun h => h)).trans HKD
        have hK5 : Keep (fun _ => False) w (w5.setCell ⟨w.heap.size + 1, 0, none⟩ (.bool true)) := (Keep.trans HK0 hK05 (fun _ _ h => h)).setCell (fun h => absurd h (by simp)) _
        have hB6 : Blk (w5.setCell ⟨w.heap.size + 1, 0, none⟩ (.bool true)) (w.heap.size + 1) 4 #[.bool true] := hB5.set_ 0 _
        have hDn : D ≠ w.heap.size + 1 := by
          rintro rfl
          have h1 : w5.heap[w.heap.size + 1]? = some _ := hB5
          rw [h1] at hKD5
          cases hKD5
        have hKD6 : (w5.setCell ⟨w.heap.size + 1, 0, none⟩ (.bool true)).heap[D]? = some (.deferred (some [])) := (Below.heap_setCell w5 ⟨w.heap.size + 1, 0, none⟩ (.bool true) D (by simpa using hDn)).trans hKD5
        have HK5 := Lib.hid hK5
        have HB6 := Lib.hid hB6
        have HKD6 := Lib.hid hKD6
        clear hk5 hB5 hKD5 hK5 hB6 hKD6 HKD HKW hK05
        refine hK _ _ ?_
        clear hK K
        refine wpAny_ready (rs := [1]) (by kernel_rfl) (by simp) (AllReady.cons rfl (fun K hK => ?_) AllReady.nil)
        go_simp
        refine hK _ _ ?_
        clear hK K
        refine wpAny_ready (rs := [2, 4]) (by kernel_rfl) (by simp) (AllReady.cons rfl (fun K hK => ?_) (AllReady.cons rfl (fun K hK => ?_) AllReady.nil))
        · go_simp
          refine hK _ _ ?_
          clear hK K
          refine wpAny_ready (rs := [3, 4]) (by kernel_rfl) (by simp) (AllReady.cons rfl (fun K hK => ?_) (AllReady.cons rfl (fun K hK => ?_) AllReady.nil))
          · go_simp
            refine (lenI_does HR5).mono ?_
            rintro e w5 ⟨rfl, rfl⟩
            rw [hLl, ← HN.out]
            refine hK _ _ ?_
            clear hK K
            refine wpAny_ready (rs := [4]) (by kernel_rfl) (by simp) (AllReady.cons rfl (fun K hK => ?_) AllReady.nil)
            go_simp
            refine hK _ _ ?_
            clear hK K
            refine wpAny_ready (rs := [5]) (by kernel_rfl) (by simp) (AllReady.cons rfl (fun K hK => ?_) AllReady.nil)
            go_simp
            refine hK _ _ ?_
            clear hK K
            refine wpAny_ready (rs := [6]) (by kernel_rfl) (by simp) (AllReady.cons rfl (fun K hK => ?_) AllReady.nil)
            go_simp
            refine hK _ _ ?_
            clear hK K
            refine wpAny_ready (rs := [7]) (by kernel_rfl) (by simp) (AllReady.cons rfl (fun K hK => ?_) AllReady.nil)
            go_simp
            refine hK _ _ ?_
            clear hK K
            refine wpAny_done (by kernel_rfl) ?_ _
            go_wp2_with fail
            have ht : Turns (w.heap.size + 2) (w5.setCell ⟨w.heap.size + 1, 0, none⟩ (.bool true)) ((w5.setCell ⟨w.heap.size + 1, 0, none⟩ (.bool true)).putObj D (.deferred none)) := Turns.put (by omega) HKD6.out rfl
            have q1' : ((w5.setCell ⟨w.heap.size + 1, 0, none⟩ (.bool true)).putObj D (.deferred none)).cell? ⟨w.heap.size + 1, 0, none⟩ = some (.bool true) := (Turns.blk ht HB6).cell 0
            refine ⟨by simp, .inl ⟨_, _, rfl, run_takeDeferred HKD6, ?_⟩⟩
            exact ⟨.bool true, by simp [results, Try.results3, go_sem, q1'], rfl, Turns.keep ht HK5 (by omega)⟩
          · go_simp
            refine hK _ _ ?_
            clear hK K
            refine wpAny_ready (rs := [3]) (by kernel_rfl) (by simp) (AllReady.cons rfl (fun K hK => ?_) AllReady.nil)
            go_simp
            refine (lenI_does HR5).mono ?_
            rintro e w5 ⟨rfl, rfl⟩
            rw [hLl, ← HN.out]
            refine hK _ _ ?_
            clear hK K
            refine wpAny_ready (rs := [5]) (by kernel_rfl) (by simp) (AllReady.cons rfl (fun K hK => ?_) AllReady.nil)
            go_simp
            refine hK _ _ ?_
            clear hK K
            refine wpAny_ready (rs := [6]) (by kernel_rfl) (by simp) (AllReady.cons rfl (fun K hK => ?_) AllReady.nil)
            go_simp
            refine hK _ _ ?_
            clear hK K
            refine wpAny_ready (rs := [7]) (by kernel_rfl) (by simp) (AllReady.cons rfl (fun K hK => ?_) AllReady.nil)
            go_simp
            refine hK _ _ ?_
            clear hK K
            refine wpAny_done (by kernel_rfl) ?_ _
            go_wp2_with fail
            have ht : Turns (w.heap.size + 2) (w5.setCell ⟨w.heap.size + 1, 0, none⟩ (.bool true)) ((w5.setCell ⟨w.heap.size + 1, 0, none⟩ (.bool true)).putObj D (.deferred none)) := Turns.put (by omega) HKD6.out rfl
            have q1' : ((w5.setCell ⟨w.heap.size + 1, 0, none⟩ (.bool true)).putObj D (.deferred none)).cell? ⟨w.heap.size + 1, 0, none⟩ = some (.bool true) := (Turns.blk ht HB6).cell 0
            refine ⟨by simp, .inl ⟨_, _, rfl, run_takeDeferred HKD6, ?_⟩⟩
            exact ⟨.bool true, by simp [results, Try.results3, go_sem, q1'], rfl, Turns.keep ht HK5 (by omega)⟩
        · go_simp
          refine hK _ _ ?_
          clear hK K
          refine wpAny_ready (rs := [2]) (by kernel_rfl) (by simp) (AllReady.cons rfl (fun K hK => ?_) AllReady.nil)
          go_simp
          refine hK _ _ ?_
          clear hK K
          refine wpAny_ready (rs := [3]) (by kernel_rfl) (by simp) (AllReady.cons rfl (fun K hK => ?_) AllReady.nil)
          go_simp
          refine (lenI_does HR5).mono ?_
          rintro e w5 ⟨rfl, rfl⟩
          rw [hLl, ← HN.out]
          refine hK _ _ ?_
          clear hK K
          refine wpAny_ready (rs := [5]) (by kernel_rfl) (by simp) (AllReady.cons rfl (fun K hK => ?_) AllReady.nil)
          go_simp
          refine hK _ _ ?_
          clear hK K
          refine wpAny_ready (rs := [6]) (by kernel_rfl) (by simp) (AllReady.cons rfl (fun K hK => ?_) AllReady.nil)
          go_simp
          refine hK _ _ ?_
          clear hK K
          refine wpAny_ready (rs := [7]) (by kernel_rfl) (by simp) (AllReady.cons rfl (fun K hK => ?_) AllReady.nil)
          go_simp
          refine hK _ _ ?_
          clear hK K
          refine wpAny_done (by kernel_rfl) ?_ _
          go_wp2_with fail
          have ht : Turns (w.heap.size + 2) (w5.setCell ⟨w.heap.size + 1, 0, none⟩ (.bool true)) ((w5.setCell ⟨w.heap.size + 1, 0, none⟩ (.bool true)).putObj D (.deferred none)) := Turns.put (by omega) HKD6.out rfl
          have q1' : ((w5.setCell ⟨w.heap.size + 1, 0, none⟩ (.bool true)).putObj D (.deferred none)).cell? ⟨w.heap.size + 1, 0, none⟩ = some (.bool true) := (Turns.blk ht HB6).cell 0
          refine ⟨by simp, .inl ⟨_, _, rfl, run_takeDeferred HKD6, ?_⟩⟩
          exact ⟨.bool true, by simp [results, Try.results3, go_sem, q1'], rfl, Turns.keep ht HK5 (by omega)⟩
end Go.Proofs.Ytimkbbdncajggaa
