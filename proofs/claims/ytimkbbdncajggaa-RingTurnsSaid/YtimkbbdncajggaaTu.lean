/- RingTurns walked. -/
import Derived.Test.YtimkbbdncajggaaAl
import Derived.Test.YtimkbbdncajggaaTp
namespace Go.Proofs.Ytimkbbdncajggaa
open Go.RowKit Go.BigFrame Go.Shelf Go.Maps Go.WideMaps
attribute [local go_sem] Oper.semAt_some
theorem turn_step {n j : Nat} (h : 0 < n) : turnN n (j % n) = (j + 1) % n := by
  have hlt := Nat.mod_lt j h
  rw [← Nat.mod_add_mod]
  unfold turnN
  split
  · next hh =>
    have e : j % n + 1 = n := by omega
    rw [e, Nat.mod_self]
  · next hh => exact (Nat.mod_eq_of_lt (by omega)).symm
set_option maxRecDepth 100000 in
set_option maxHeartbeats 8000000 in
theorem turns_any (A : Option Addr) (c : Nat) (l : List Op) (limit : Int) (w : World) (h : OpsAt w A l) (hn : l.length * 24 ≤ 140737488351232) (hbig : ∀ o ∈ l, o.s.size ≤ bigM) :
    Calls Try.prog 6 #[.int .i64 limit, .slice A l.length c] w fun e w' => e = .returned (.bool true) ∧ Keep (fun _ => False) w w' := by
  have hmm := @run_makeMap Try.prog
  have hb1 := (clampN_bd limit).1
  have hb2 := (clampN_bd limit).2.1
  have HO := Lib.hid h
  clear h
  refine (callsIn_wide (n := 1)).1 (callsIn_of_wp_marks Try.func6 rfl trivial ?_ rfl)
  simp only [Try.ntmps6, List.size_toArray, List.length_cons, List.length_nil, Nat.reduceAdd, Nat.reduceSub, Array.replicate_succ, Array.replicate_zero, List.push_toArray, List.append_toArray, List.nil_append, List.cons_append]
  refine wpIn_wide.2 ?_
  go_wp2_with fail
  refine (few_any A c l w HO hn).mono ?_
  rintro e w2 ⟨fb, rfl, hfb, hk⟩
  have HK2 := Lib.hid hk
  clear hk
  cases fb with
  | false =>
    go_wp2_with fail
    refine (alive_does _).mono ?_
    rintro e w3 ⟨rfl, hk3⟩
    have HK3 : Hid (Keep (fun _ => False) w w3) := Keep.trans HK2 hk3 (fun _ _ h => h)
    clear hk3
    go_wp2_with fail
    exact ⟨.bool true, by simp [results, Try.results6, go_sem], rfl, HK3⟩
  | true =>
    have hll := hfb rfl
    clear hfb
    go_wp2_with fail
    refine (newS_does limit w2).mono ?_
    rintro e w3 ⟨rfl, hR, hk3⟩
    have HR3 := Lib.hid hR
    have HK3 : Hid (Keep (fun _ => False) w w3) := Keep.trans HK2 hk3 (fun _ _ h => h)
    have hs2 := HK2.out.size
    clear hk3 hR
    go_wp2_with fail
    go_loopw [5, 29] (fun p i wr => ∃ (k B : Nat) (A' : Option Addr) (c' : Nat), k ≤ l.length ∧ p = .pointer (some ⟨B, 0, none⟩) ∧ i = .int .i64 (k : Nat) ∧ RingS wr B A' c' (clampN limit) (runR (clampN limit) (l.take k)).1 (runR (clampN limit) (l.take k)).2 ∧ Keep (fun _ => False) w wr ∧ (∀ j, Foot B A' j → w.heap.size ≤ j)) (fun _ i _ => l.length - (intOf i).toNat)
    case atStart => exact ⟨0, w2.heap.size, none, 0, by omega, rfl, rfl, by simpa [runR] using HR3.out, HK3, by rintro j (rfl | ⟨o, hh⟩) <;> first | exact hs2 | cases hh⟩
    case round =>
      clear HR3 HK3 HK2 hs2
      obtain ⟨k, B, A', c', hk, rfl, rfl, hR, hK, hft⟩ := hrel
      have HR := Lib.hid hR
      have HK := Lib.hid hK
      have HFT := Lib.hid hft
      clear hR hK hft
      by_cases hkl : k < l.length
      · obtain ⟨x, hx⟩ : ∃ x, l[k]? = some x := ⟨_, List.getElem?_eq_getElem hkl⟩
        obtain ⟨bo, oo, rfl, hbo, h0, h1, hsz⟩ := (HO.out.keep HK.out) k x hx
        have hk0 : (0 : Int) ≤ (k : Int) := by omega
        have hk1 : (k : Int) < (l.length : Int) := by omega
        have HX := Lib.hid hx
        clear hx
        have hrs := runR_snoc (lim := clampN limit) HX.out
        have hsize := runR_size (clampN limit) l hbig k hk
        have hxb := hbig x (List.mem_of_getElem? HX.out)
        have hsum : ∀ y ∈ (runR (clampN limit) (l.take k)).1, y.size + x.s.size ≤ 9223372036854775807 := fun y hy => by
          have h8 := hsize y hy
          have h7 : k * bigM ≤ 200 * bigM := Nat.mul_le_mul_right _ (by omega)
          unfold bigM at *
          omega
        have HRS := Lib.hid hrs
        have HSUM := Lib.hid hsum
        clear hrs hsize hsum
        generalize hst : runR (clampN limit) (l.take k) = st at *
        obtain ⟨L, at_⟩ := st
        dsimp only at *
        go_wp2_with fail
        have hkA : Keep (fun _ => False) wr (wr.alloc (.cells #[.int .i64 x.kind, .string x.s] 46)) := (Keep.refl _ wr).alloc _
        have hz8 : (wr.alloc (.cells #[.int .i64 x.kind, .string x.s] 46)).heap.size = wr.heap.size + 1 := by simp
        generalize wr.alloc (.cells #[.int .i64 x.kind, .string x.s] 46) = W8 at *
        have HR8 := Lib.hid (HR.out.keep hkA (fun _ _ h => h))
        have HK8 : Hid (Keep (fun _ => False) w W8) := Keep.trans HK hkA (fun _ _ h => h)
        have hz08 := HK8.out.size
        clear hkA HR HK
        refine (does_does x HR8.out HSUM.out).mono ?_
        rintro e w5 ⟨B5, A5, c5, rfl, hR5, hk5, hft5⟩
        have HR5 := Lib.hid hR5
        have HFT5 : Hid (∀ j, Foot B5 A5 j → w.heap.size ≤ j) := fun j h => (hft5 j h).elim (HFT.out j) (fun h => by omega)
        have HK5 : Hid (Keep (fun _ => False) w w5) := Keep.trans HK8 hk5 (fun i hi h => by have := HFT.out i h; omega)
        clear hR5 hk5 hft5 HR8 HK8 HFT
        go_wp2_with fail
        refine ⟨⟨k + 1, B5, A5, c5, by omega, rfl, by push_cast; rfl, ?_, HK5, HFT5⟩, by simp [intOf]; omega⟩
        rw [HRS.out]
        exact HR5
      · have : k = l.length := by omega
        subst this
        have hsize := runR_size (clampN limit) l hbig l.length (Nat.le_refl _)
        rw [List.take_length] at HR hsize
        generalize hst : runR (clampN limit) l = st at *
        obtain ⟨L, at_⟩ := st
        dsimp only at *
        have HXL : Hid (∀ y ∈ L, y.size ≤ maxLen) := fun y hy => by
          have h8 := hsize y hy
          have h7 : l.length * bigM ≤ 200 * bigM := Nat.mul_le_mul_right _ hll
          unfold bigM at *
          unfold maxLen
          omega
        have hL64 : L.length ≤ 64 := Nat.le_trans HR.out.few HR.out.most
        have hat := HR.out.at_
        have hat2 : (at_ + L.length) % L.length = at_ := by
          rcases hat with h | ⟨h1, h2⟩
          · rw [Nat.add_mod_right]; exact Nat.mod_eq_of_lt h
          · rw [h1, h2]
        have HAT := Lib.hid hat
        have HAT2 := Lib.hid hat2
        clear hsize hat hat2
        go_wp2_with fail
        refine (topS_does HR).mono ?_
        rintro e w4 ⟨rfl, hk4⟩
        have hR4 := HR.out.keep hk4 (fun _ _ h => h)
        have hRlt := hR4.lt
        have HK4 : Hid (Keep (fun _ => False) w w4) := Keep.trans HK hk4 (fun _ _ h => h)
        have hz4 := HK4.out.size
        have kW : Keep (fun _ => False) w4 ((w4.alloc (.map #[] 0)).alloc (.cells #[.map (some w4.heap.size)] 51)) := ((Keep.refl _ w4).alloc _).alloc _
        have zW : ((w4.alloc (.map #[] 0)).alloc (.cells #[.map (some w4.heap.size)] 51)).heap.size = w4.heap.size + 2 := by simp
        have bM : Blk ((w4.alloc (.map #[] 0)).alloc (.cells #[.map (some w4.heap.size)] 51)) (w4.heap.size + 1) 51 #[.map (some w4.heap.size)] := by
          have := Blk.new (w4.alloc (.map #[] 0)) 51 #[.map (some w4.heap.size)]
          rwa [World.size_alloc] at this
        have hcn : CountAt ((w4.alloc (.map #[] 0)).alloc (.cells #[.map (some w4.heap.size)] 51)) w4.heap.size 0 (fun s => (many s ((rot L at_).take 0) : Nat)) :=
          ⟨_, (World.ownsMap_made _ _ _ _).alloc _, by rw [List.take_zero]; exact counts_empty⟩
        generalize htv : topS L at_ = tv at *
        generalize htb : decide (0 < L.length) = tb at *
        go_wp2_with fail
        have HRm := Lib.hid (hR4.keep kW (fun _ _ h => h))
        have HKm : Hid (Keep (fun _ => False) w ((w4.alloc (.map #[] 0)).alloc (.cells #[.map (some w4.heap.size)] 51))) := Keep.trans HK4 kW (fun _ _ h => h)
        generalize ((w4.alloc (.map #[] 0)).alloc (.cells #[.map (some w4.heap.size)] 51)) = Wm at *
        generalize hMB : w4.heap.size = MB at *
        have HBM := Lib.hid bM
        have HCN := Lib.hid hcn
        have HRLT := Lib.hid hRlt
        clear hk4 hR4 HK4 kW bM hcn HR HK hRlt
        refine (lenS_does HRm).mono ?_
        rintro e Wm ⟨rfl, rfl⟩
        go_wp2_with fail
        go_loopw [47] (fun i wr2 => ∃ j : Nat, j ≤ L.length ∧ i = .int .i64 (j : Nat) ∧ RingS wr2 B A' c' (clampN limit) L ((at_ + j) % L.length) ∧ Keep (fun _ => False) w wr2 ∧ CountAt wr2 MB j (fun s => (many s ((rot L at_).take j) : Nat)) ∧ Blk wr2 (MB + 1) 51 #[.map (some MB)]) (fun i _ => L.length - (intOf i).toNat)
        case atStart => exact ⟨0, by omega, rfl, by
          have e : (at_ + 0) % L.length = at_ := by
            rcases HAT.out with h | ⟨h1, h2⟩
            · exact Nat.mod_eq_of_lt h
            · rw [h1, h2]
          rw [e]; exact HRm, HKm, HCN, HBM⟩
        case round =>
          clear HRm HKm HBM HCN
          obtain ⟨j, hj, rfl, hR5, hK5, hc5, hb5⟩ := hrel
          have q10 : wr.cell? ⟨MB + 1, 0, none⟩ = some (.map (some MB)) := hb5.cell 0
          have HR5 := Lib.hid hR5
          have HK5 := Lib.hid hK5
          have HC5 := Lib.hid hc5
          have HB5 := Lib.hid hb5
          clear hR5 hK5 hc5 hb5
          by_cases hjt : j < L.length
          · have hj1 : (j : Int) < (L.length : Int) := by omega
            have hatl : at_ < L.length := by rcases HAT.out with h | ⟨h1, h2⟩ <;> omega
            obtain ⟨x, hx⟩ : ∃ x, (rot L at_)[j]? = some x := ⟨_, List.getElem?_eq_getElem (by rw [rot_length hatl]; exact hjt)⟩
            have hx2 := hx
            rw [rot_get hatl hjt] at hx2
            have htop : topS L ((at_ + j + 1) % L.length) = x := by unfold topS; rw [hx2]; rfl
            have HXS : Hid (x.size ≤ maxLen) := HXL.out x (List.mem_of_getElem? hx2)
            have HTK : Hid ((rot L at_).take (j + 1) = (rot L at_).take j ++ [x]) := by
              obtain ⟨hk, he⟩ := List.getElem?_eq_some_iff.1 hx
              show _ = _
              rw [List.take_succ_eq_append_getElem hk, he]
            have hcl : ∀ s, many s ((rot L at_).take j) ≤ 64 := fun s => Nat.le_trans (many_le _ _) (by rw [List.length_take]; omega)
            have HCL := Lib.hid hcl
            clear hx hx2 hcl
            go_wp2_with fail
            refine (turnS_does HR5).mono ?_
            rintro e w6 ⟨rfl, hR6, hk6⟩
            rw [turn_step (show 0 < L.length by omega)] at hR6 ⊢
            rw [htop]
            have hKf : Keep (fun k => k = B) wr w6 := hk6
            have hBl := HRLT.out B (.inl rfl)
            have q10' : w6.cell? ⟨MB + 1, 0, none⟩ = some (.map (some MB)) := (HB5.out.keep hKf (by omega)).cell 0
            obtain ⟨D, hown, hcnt⟩ := HC5.out.keep hKf (show ¬ MB = B by omega)
            have HOWN := Lib.hid hown
            have HCNT := Lib.hid hcnt
            have HR6 := Lib.hid hR6
            have HB6 := Lib.hid (HB5.out.keep hKf (show ¬ MB + 1 = B by omega))
            have HBw := HFT.out B (.inl rfl)
            have HK6 : Hid (Keep (fun _ => False) w w6) := Keep.trans HK5 hk6 (fun i hi h => by omega)
            clear hown hcnt hR6 hk6 hKf HR5 HK5 HC5 HB5 q10
            go_wp2_with (first
              | (at_lookup; refine wpList_lookup_own_int _ rfl _ _ 51 rfl 9 3 .i64 law9 Try.underlying51 Try.underlying3 (zero3 _) MB j D rfl HOWN.out _ _ rfl (keyOf_string_mk Try.underlying9 HXS.out) ?_; intro cv hcat _; have hcv := counts_at HCNT.out HXS.out hcat; have hcb := HCL.out x; have hc0 : 0 ≤ cv := (by omega); have hc1 : cv ≤ 64 := (by omega); have HCV := Lib.hid hcv; clear hcat hcv hcb)
              | (at_mapUpdate; refine wpList_mapUpdate_own _ rfl _ _ _ 51 rfl 9 3 law9 Try.underlying51 _ MB j D rfl HOWN.out (by unfold maxLen; omega) _ _ _ rfl rfl (keyOf_string_mk Try.underlying9 HXS.out) _ [] (plainElem_int Try.underlying3 (WalkArith.wf_i64 (by omega))) ?_; intro w7 hown7 hg7))
            have hk7 : Keep (fun k => k = MB) w6 w7 := keep_grown hg7
            have hc7 : CountAt w7 MB (j + 1) (fun s => (many s ((rot L at_).take (j + 1)) : Nat)) := by
              refine ⟨_, hown7, counts_put HCNT.out HOWN.out.isMap ?_ ?_⟩
              · rw [HTK.out, many_snoc, HCV.out]
                push_cast
                rfl
              · intro s hs
                rw [HTK.out, many_other hs]
            have HR7 := HR6.out.keep hk7 (fun k hf h => by have := HRLT.out k hf; omega)
            have HK7 : Keep (fun _ => False) w w7 := Keep.trans HK6 hk7 (fun i hi h => by omega)
            have HB7 := HB6.out.keep hk7 (show ¬ MB + 1 = MB by omega)
            exact ⟨⟨j + 1, by omega, by push_cast; rfl, HR7, HK7, hc7, HB7⟩, by simp [intOf]; omega⟩
          · have hjj : j = L.length := by omega
            subst hjj
            rw [HAT2.out] at HR5
            have hc5 := HC5.out
            clear HC5
            go_wp2_with fail
            refine (allS_does _ _).mono ?_
            rintro e w5 ⟨rfl, rfl⟩
            go_wp2_with fail
            have hc5 : CountAt wr MB L.length (fun s => (many s L : Nat)) := by
              obtain ⟨D, h1, h2⟩ := hc5
              refine ⟨D, h1, fun s hs => ?_⟩
              rw [h2 s hs]
              rcases HAT.out with h | ⟨h1, _⟩
              · have e : (rot L at_).take L.length = rot L at_ := List.take_of_length_le (by rw [rot_length h]; omega)
                simp only [e, many_rot]
              · have e : L = [] := List.eq_nil_of_length_eq_zero h1
                subst e
                simp [rot]
            have kW : Keep (fun _ => False) wr (wr.alloc (.cells #[.pointer (some ⟨B, 0, none⟩)] 32)) := (Keep.refl _ wr).alloc _
            have bA : Blk (wr.alloc (.cells #[.pointer (some ⟨B, 0, none⟩)] 32)) wr.heap.size 32 #[.pointer (some ⟨B, 0, none⟩)] := Blk.new wr 32 _
            have zW : (wr.alloc (.cells #[.pointer (some ⟨B, 0, none⟩)] 32)).heap.size = wr.heap.size + 1 := by simp
            have hMl := hc5.lt
            have HC0 := Lib.hid (hc5.keep kW (fun h => h))
            generalize (wr.alloc (.cells #[.pointer (some ⟨B, 0, none⟩)] 32)) = W0 at *
            have HR0 := Lib.hid (HR5.out.keep kW (fun _ _ h => h))
            have HK0 : Hid (Keep (fun _ => False) w W0) := Keep.trans HK5 kW (fun _ _ h => h)
            have HB0 := Lib.hid (HB5.out.keep kW (fun h => h))
            have hBl2 := HB5.out.lt
            clear hc5 kW HR5 HK5 HB5 q10
            refine' wp_range (gf := 33) (lb := #[.pointer (some ⟨wr.heap.size, 0, none⟩)]) (T := fun k => k = MB) rfl (enters_of Try.func33 (by kernel_rfl) rfl)
              (all1S_gives _ HR0 bA (by omega) (fun k hf => by have := HRLT.out k hf; omega)) (fun _ => rfl) (by omega) (by omega)
              (fun xs W => Keep (fun k => k = MB) W0 W ∧ CountAt W MB (L.length + xs.length) (fun s => (many s L : Nat) - (many s (xs.map (·.2)) : Nat)) ∧ SpS L xs) (fun _ _ _ => False)
              (fun xs X Y h ht => ⟨Turns.keep ht h.1 (Nat.le_refl _), h.2.1.keep ht (fun hh => by have := hh.1; omega), h.2.2⟩) (fun _ _ _ _ h _ => h)
              (fun pre x X Y h _ => h) ⟨Keep.refl _ _, by simpa [many_nil] using HC0.out, by simp [SpS]⟩ _ ?assign ?body ?done ?stop
            case assign =>
              intro m x W K hK
              gi_wp2
              exact hK
            case stop =>
              rintro D cc pre W _ _ h _
              exact h.elim
            case body =>
              rintro m pre x W ⟨hK, hc, hSp⟩ ⟨hx1, hx2⟩ hlt
              obtain ⟨x1, x2⟩ := x
              simp only at hx1 hx2
              subst hx1
              have hpl := (List.getElem?_eq_some_iff.1 hx2).1
              have HXS : Hid (x2.size ≤ maxLen) := HXL.out x2 (List.mem_of_getElem? hx2)
              have q10 : W.cell? ⟨MB + 1, 0, none⟩ = some (.map (some MB)) := (Blk.keep HB0 hK (by omega)).cell 0
              have hcl : ∀ s, many s L ≤ 64 ∧ many s (pre.map (·.2)) ≤ 64 := fun s => ⟨Nat.le_trans (many_le _ _) hL64, Nat.le_trans (many_le _ _) (by rw [List.length_map]; omega)⟩
              have HCL := Lib.hid hcl
              obtain ⟨D, hown, hcnt⟩ := hc
              have HOWN := Lib.hid hown
              have HCNT := Lib.hid hcnt
              have HKb := Lib.hid hK
              have HSPN := Lib.hid (hSp.next (x := (pre.length, x2)) hx2)
              clear hK hcl hown hcnt hSp hx2
              gi_wp2_with (first
                | (gi_at_lookup; refine wpListIn_lookup_own_int _ rfl _ _ 51 rfl 9 3 .i64 law9 Try.underlying51 Try.underlying3 (zero3 _) MB (L.length + pre.length) D rfl HOWN.out _ _ rfl (keyOf_string_mk Try.underlying9 HXS.out) ?_; intro cv hcat _; have hcv := counts_at HCNT.out HXS.out hcat; have hcb := HCL.out x2; have hc0 : -64 ≤ cv := (by omega); have hc1 : cv ≤ 64 := (by omega); have HCV := Lib.hid hcv; clear hcat hcv hcb)
                | (gi_at_mapUpdate; refine wpListIn_mapUpdate_own _ rfl _ _ _ 51 rfl 9 3 law9 Try.underlying51 _ MB (L.length + pre.length) D rfl HOWN.out (by unfold maxLen; omega) _ _ _ rfl rfl (keyOf_string_mk Try.underlying9 HXS.out) _ [] (plainElem_int Try.underlying3 (WalkArith.wf_i64 (by omega))) ?_; intro w7 hown7 hg7))
              have hk7 : Keep (fun k => k = MB) W w7 := keep_grown hg7
              refine ⟨hk7, Keep.trans HKb hk7 (fun _ _ h => h), ⟨_, by rw [List.length_append]; exact hown7, counts_put HCNT.out HOWN.out.isMap ?_ ?_⟩, HSPN⟩
              · rw [List.map_append, List.map_singleton, many_snoc, HCV.out]
                push_cast
                omega
              · intro s hs
                rw [List.map_append, List.map_singleton, many_other hs]
            case done =>
              rintro D xs W hD hxs ⟨hK, hc, hSp⟩ hKD
              have hDl := (Array.getElem?_eq_some_iff.1 hKD).1
              have hxs : xs.map (·.2) = L := hxs
              have hxl : xs.length = L.length := by rw [← hxs]; simp
              rw [hxl, hxs] at hc
              obtain ⟨D0, hown, hcnt⟩ := hc
              have hMW := hown.lt
              have q10 : W.cell? ⟨MB + 1, 0, none⟩ = some (.map (some MB)) := (Blk.keep HB0 hK (by omega)).cell 0
              have HOWN := Lib.hid hown
              have HZ : Hid (∀ s : ByteArray, s.size ≤ maxLen → D0.atKey (keyS s) (.lit (.int .i64 0)) = .lit (.int .i64 0)) := fun s hs => by
                have := hcnt s hs
                dsimp only at this
                rwa [Int.sub_self] at this
              have HRW := Lib.hid (HR0.out.keep hK (fun k hf h => by have := HRLT.out k hf; omega))
              have HKW : Hid (Keep (fun _ => False) w W) := Keep.trans HK0 hK (fun i hi h => by omega)
              have HKD := Lib.hid hKD
              have hws := HKW.out.size
              clear hK hown hcnt hSp hKD hxs hxl
              go_wp2_with (first
                | (at_range; refine wpList_range_own _ rfl _ 51 rfl 9 3 law9 Try.underlying51 _ MB (L.length + L.length) D0 rfl HOWN.out ?_; intro w5 hrg5 hg5 hs5))
              go_frame
              have hk5 : Keep (fun _ => False) W w5 := keep_grown0 hg5
              have HK5 : Hid (Keep (fun _ => False) w w5) := Keep.trans HKW hk5 (fun _ _ h => h)
              have HR5 := Lib.hid (HRW.out.keep hk5 (fun _ _ h => h))
              have HKD5 : Hid (w5.heap[D]? = some (.deferred (some []))) := (hk5.block D hDl (fun h => h)).trans HKD
              clear hg5 hk5 HRW HKD HOWN q10
              generalize hWS : W.heap.size = WS at *
              go_loopw [16] (fun _ w8 => ∃ (left : Lit → Bool) (cnt : Nat), w8.ranges Try.prog 9 (plainElem Try.prog 3) MB WS (L.length + L.length) D0 left cnt ∧ Keep (fun k => k = WS) w5 w8) (fun _ w8 => w8.rangeLeft MB WS)
              case atStart => exact ⟨_, _, hrg5, Keep.refl _ _⟩
              case round =>
                obtain ⟨left, cnt, hrg, hk8⟩ := hrel
                have HRG := Lib.hid hrg
                have HK8 := Lib.hid hk8
                clear hrg hk8 hrg5 HKW hws
                go_wp2_with (first
                  | (at_next; refine wpList_next_si rfl _ rfl MB WS (L.length + L.length) D0 left cnt rfl HRG.out ?_ ?_))
                · go_wp2_with fail
                  refine (topS_does (HR5.out.keep HK8 (fun k hf h => by have := HRLT.out k hf; omega))).mono ?_
                  rintro e w9 ⟨rfl, hk9⟩
                  rw [htv, htb]
                  have HKw9 : Hid (Keep (fun _ => False) w w9) := Keep.trans (Keep.trans HK5 HK8 (fun i hi h => by omega)) hk9 (fun _ _ h => h)
                  have HKD9 : Hid (w9.heap[D]? = some (.deferred (some []))) := (hk9.block D (by have := HK8.out.size; omega) (fun h => h)).trans ((HK8.out.block D (by omega) (by omega)).trans HKD5)
                  clear hk9 HK8 HRG HKD5 HK5 HR5
                  go_wp2_with fail
                  refine (alive_does _).mono ?_
                  rintro e w6 ⟨rfl, hk6⟩
                  have HKD6 : Hid (w6.heap[D]? = some (.deferred (some []))) := (hk6.block D (Array.getElem?_eq_some_iff.1 HKD9.out).1 (fun h => h)).trans HKD9
                  have HKw6 : Hid (Keep (fun _ => False) w w6) := Keep.trans HKw9 hk6 (fun _ _ h => h)
                  clear hk6 HKw9 HKD9
                  go_wp2_with fail
                  have ht : Turns w.heap.size w6 (w6.putObj D (.deferred none)) := Turns.put (by omega) HKD6.out rfl
                  refine ⟨by simp, .inl ⟨_, _, rfl, run_takeDeferred HKD6, ?_⟩⟩
                  exact ⟨.bool true, by simp [results, Try.results6, go_sem], rfl, Turns.keep ht HKw6 (Nat.le_refl _)⟩
                · intro x cv left' w9 cnt' hxs hcat hrg9 hlt9 hk9 hen
                  have hcv : cv = 0 := by
                    rw [HZ.out x hxs] at hcat
                    injection hcat with hcat
                    injection hcat with _ hcat
                    exact hcat.symm
                  subst hcv
                  have HRG9 := Lib.hid hrg9
                  have HK9 : Hid (Keep (fun k => k = WS) w5 w9) := Keep.trans HK8 hk9 (fun _ _ h => h)
                  have HME : Hid (w9.rangeLeft MB WS < wr.rangeLeft MB WS) := by
                    show _ < _
                    rw [hrg9.left_eq, HRG.out.left_eq]
                    exact hlt9
                  clear hcat hrg9 hk9 hlt9 HRG HK8
                  go_wp2_with fail
                  exact ⟨⟨left', cnt', HRG9, HK9⟩, HME⟩
end Go.Proofs.Ytimkbbdncajggaa
