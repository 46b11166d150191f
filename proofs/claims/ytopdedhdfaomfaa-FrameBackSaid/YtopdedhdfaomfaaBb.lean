/- FrameBack walked. -/
import Derived.Test.YtopdedhdfaomfaaBa
import Derived.Sort.AtCall
import Derived.RegionTactic
import Derived.BigRegion
namespace Go.Proofs.Ytopdedhdfaomfaa
open Go.RowKit Go.BigFrame
/-- The last frame that was packed. -/
def LastAt (w : World) (L : List (List Nat)) (k : Nat) (y : Value) : Prop :=
  ∃ A8 c8 q, y = .slice A8 q.length c8 ∧ BytesAt w A8 q ∧ q.length ≤ c8 ∧ c8 ≤ 9223372036854775807 ∧ (k = 0 → q = []) ∧ (0 < k → ∃ p, L[k - 1]? = some p ∧ q = frameB p)
theorem LastAt.keep {w w' : World} {L : List (List Nat)} {k : Nat} {y : Value} (h : LastAt w L k y) (hk : Keep (fun _ => False) w w') : LastAt w' L k y := by
  obtain ⟨A8, c8, q, e, hb, hr⟩ := h
  exact ⟨A8, c8, q, e, hb.keep hk, hr⟩
set_option maxRecDepth 100000 in
set_option maxHeartbeats 8000000 in
theorem back_any (A : Option Addr) (c : Nat) (L : List (List Nat)) (cut noughts : Int) (w : World) (hL : RowsAt w A L) (hreach : L.length * 24 ≤ 140737488351232) :
    Calls Try.prog 3 #[.slice A L.length c, .int .i64 cut, .int .i64 noughts] w fun e w' => e = .returned (.bool true) ∧ Keep (fun _ => False) w w' := by
  obtain ⟨i0, hi, hz0, hz1, hz2⟩ := info_parts info_byte
  have HL := Lib.hid hL
  have HLT := Lib.hid hL.lt
  clear hL
  go_enter Try.func3, Try.ntmps3
  go_wp2_with fail
  go_loopw [7, 8, 20] (fun y z i wr => ∃ (k n : Nat) (A7 : Option Addr) (c7 : Nat), k ≤ L.length ∧ i = .int .i64 k ∧ n = (framesB (L.take k)).length ∧ n ≤ 5000 ∧ y = .slice A7 n c7 ∧ Fresh wr w.heap.size 5 A7 n c7 ((framesB (L.take k)).map bv) ∧ LastAt wr L k z ∧ (∀ p ∈ L.take k, p.length ≤ 1000) ∧ Keep (fun _ => False) w wr) (fun _ _ i _ => L.length - (intOf i).toNat)
  case atStart =>
    exact ⟨0, 0, none, 0, by omega, rfl, rfl, by omega, rfl, World.ownsRow_nil _ _ _ _, ⟨none, 0, [], rfl, bytes_nil _, by simp, by simp, fun _ => rfl, fun h => by omega⟩, (fun p hp => by simp at hp), Keep.refl _ w⟩
  case round =>
    obtain ⟨k, n, A7, c7, hk, rfl, hn, hn5, rfl, hF, ⟨A8, c8, q, rfl, hq, hq1, hq2, hq3, hq4⟩, hle, hkeep⟩ := hrel
    have HF := Lib.hid hF
    have HK := Lib.hid hkeep
    have HN := Lib.hid hn
    have HQ := Lib.hid hq
    have HQ4 := Lib.hid hq4
    have HQ3 := Lib.hid hq3
    have HLE := Lib.hid hle
    clear hF hkeep hn hq hq3 hq4 hle
    by_cases hlt : k < L.length
    · obtain ⟨p, hp⟩ : ∃ p, L[k]? = some p := ⟨_, List.getElem?_eq_getElem hlt⟩
      obtain ⟨g, o, Ap, cp, rfl, hcell, hbp, hnp, hlp⟩ := RowsAt.keep HL HK k p hp
      have HSN := Lib.hid (ends_map hp)
      have HP := Lib.hid hp
      have HBP := Lib.hid hbp
      have HNP := Lib.hid hnp
      have hfl := frameB_length p
      have HFL := Lib.hid hfl
      have HTK : Hid (p.length ≤ 1000 → ∀ r ∈ L.take (k + 1), r.length ≤ 1000) := by
        intro h1 r hr
        obtain ⟨hk', rfl⟩ := List.getElem?_eq_some_iff.1 hp
        rw [List.take_succ_eq_append_getElem hk', List.mem_append] at hr
        rcases hr with hr | hr
        · exact HLE.out r hr
        · simp at hr; subst hr; exact h1
      clear hp hbp hnp hfl HLE HQ4 HQ3
      by_cases hbig : 1000 < p.length
      · go_wp2_with fail
        refine (pack_long Ap p.length cp _ hbig hlp).mono ?_
        rintro e w3 ⟨rfl, rfl⟩
        go_wp2_with fail
        refine (alive_does _).mono ?_
        rintro e w4 ⟨rfl, hk4⟩
        have HK4 : Hid (Keep (fun _ => False) w w4) := Keep.trans HK hk4 (fun _ _ h => h)
        clear hk4 HK
        go_wp2_with fail
        exact bodyPost_ret (v := .bool true) (by simp [results, Try.results3, go_sem]) rfl ⟨rfl, HK4⟩
      go_wp2_with fail
      refine (pack_at Ap cp p.length p (frameB p) _ rfl rfl HBP HNP.out (by omega)).mono ?_
      rintro e w3 ⟨Af, cf, rfl, hFf, hk3⟩
      have HK3 : Hid (Keep (fun _ => False) w w3) := Keep.trans HK hk3 (fun _ _ h => h)
      have HF3 : Hid (Fresh w3 w.heap.size 5 A7 n c7 ((framesB (L.take k)).map bv)) := Fresh.keep HF hk3 (fun _ _ _ h => h)
      have HOLD : Hid (∀ g o, A7 = some ⟨g, o, none⟩ → g < wr.heap.size) := fun g o h => (Fresh.block HF g o h).2
      have HFF := Lib.hid hFf
      have HFB : Hid (BytesAt w3 Af (frameB p)) := Fresh.bytes hFf (frameB_lt p (show BytesAt wr Ap p from HBP).2)
      clear hFf hk3 HK HBP HF
      by_cases hfull : 3000 < n
      · go_wp2_with fail
        refine (alive_does _).mono ?_
        rintro e w4 ⟨rfl, hk4⟩
        have HK4 : Hid (Keep (fun _ => False) w w4) := Keep.trans HK3 hk4 (fun _ _ h => h)
        clear hk4 HK3
        go_wp2_with fail
        exact bodyPost_ret (v := .bool true) (by simp [results, Try.results3, go_sem]) rfl ⟨rfl, HK4⟩
      have HLB := Lib.hid (show ((frameB p).map bv).length = (frameB p).length from List.length_map _)
      have HO := Lib.hid (bytes_oneCell (frameB p))
      have HFN : Hid (Af = none → (frameB p).length = 0 ∧ cf = 0) := fun h => by
        have := Fresh.none_ HFF h
        rwa [List.length_map] at this
      have HS := Lib.hid (Keep.size HK3)
      have hfl6 : (frameB p).length ≤ 1006 := by rw [HFL.out]; omega
      go_wp2_with (at_builtin; go_must (refine wpList_append_onto1 _ rfl _ _ _ rfl w.heap.size 5 i0 (.int .u8 0) 1 Try.underlying23 hi hz0 hz1 hz2 rfl A7 n c7 ((framesB (L.take k)).map bv) rfl HF3.out Af (frameB p).length cf ((frameB p).map bv) rfl HLB.out HFB.out.1 HFN.out HO.out (by omega) (by omega) HS.out ?_))
      intro A9 c9 w4 hF4 hK4
      rw [← List.map_append, ← HSN.out] at hF4
      have HK4 := Lib.hid (keep_new HK3 HF3 hK4)
      have HF4 := Lib.hid hF4
      have HFB4 : Hid (BytesAt w4 Af (frameB p)) := BytesAt.keepS HFB hK4 (by
        rintro g1 o1 h1 ⟨o2, h2⟩
        have e1 := (Fresh.block HFF g1 o1 h1).1
        have e2 := HOLD.out g1 o2 h2
        omega)
      have hlens := Fresh.lens HFF
      clear hF4 hK4 HK3 HF3 HFF HFB HS
      go_wp2_with fail
      refine ⟨⟨k + 1, n + (frameB p).length, A9, c9, by omega, by push_cast; rfl, ?_, by omega, rfl, HF4, ⟨Af, cf, frameB p, rfl, HFB4, hlens.1, hlens.2, (fun h => by omega), fun _ => ⟨p, ?_, rfl⟩⟩, ?_, HK4⟩, by simp [intOf]; omega⟩
      · rw [HSN.out, List.length_append, ← HN.out]
      · rw [Nat.add_sub_cancel]; exact HP
      · exact HTK.out (by omega)
    · have : k = L.length := by omega
      subst this
      by_cases h1 : noughts < 0
      · go_wp2_with fail
        refine (alive_does _).mono ?_
        rintro e w4 ⟨rfl, hk4⟩
        have HK4 : Hid (Keep (fun _ => False) w w4) := Keep.trans HK hk4 (fun _ _ h => h)
        clear hk4 HK
        go_wp2_with fail
        exact bodyPost_ret (v := .bool true) (by simp [results, Try.results3, go_sem]) rfl ⟨rfl, HK4⟩
      by_cases h2 : 100 < noughts
      · go_wp2_with fail
        refine (alive_does _).mono ?_
        rintro e w4 ⟨rfl, hk4⟩
        have HK4 : Hid (Keep (fun _ => False) w w4) := Keep.trans HK hk4 (fun _ _ h => h)
        clear hk4 HK
        go_wp2_with fail
        exact bodyPost_ret (v := .bool true) (by simp [results, Try.results3, go_sem]) rfl ⟨rfl, HK4⟩
      by_cases h3 : cut < 0
      · go_wp2_with fail
        refine (alive_does _).mono ?_
        rintro e w4 ⟨rfl, hk4⟩
        have HK4 : Hid (Keep (fun _ => False) w w4) := Keep.trans HK hk4 (fun _ _ h => h)
        clear hk4 HK
        go_wp2_with fail
        exact bodyPost_ret (v := .bool true) (by simp [results, Try.results3, go_sem]) rfl ⟨rfl, HK4⟩
      by_cases h4 : (q.length : Int) ≤ cut
      · go_wp2_with fail
        refine (alive_does _).mono ?_
        rintro e w4 ⟨rfl, hk4⟩
        have HK4 : Hid (Keep (fun _ => False) w w4) := Keep.trans HK hk4 (fun _ _ h => h)
        clear hk4 HK
        go_wp2_with fail
        exact bodyPost_ret (v := .bool true) (by simp [results, Try.results3, go_sem]) rfl ⟨rfl, HK4⟩
      obtain ⟨m1, rfl⟩ : ∃ m : Nat, cut = m := ⟨cut.toNat, by omega⟩
      obtain ⟨m2, rfl⟩ : ∃ m : Nat, noughts = m := ⟨noughts.toNat, by omega⟩
      have hm1 : m1 < q.length := by omega
      have hm2 : m2 ≤ 100 := by omega
      have hL0 : 0 < L.length := by
        rcases Nat.eq_zero_or_pos L.length with h | h
        · have := HQ3.out h
          rw [this] at hm1
          simp at hm1
        · exact h
      obtain ⟨p, hp, hqp⟩ := HQ4.out hL0
      have hp1000 : p.length ≤ 1000 := by
        have := HLE.out p (by rw [List.take_length]; exact List.mem_of_getElem? hp)
        exact this
      have hall : ∀ r ∈ L, r.length ≤ 1000 := by
        have := HLE.out
        rwa [List.take_length] at this
      have hfl := frameB_length p
      have hq6 : q.length ≤ 1006 := by rw [hqp, hfl]; omega
      have hT : ∀ t ∈ [[], List.replicate m2 0, q.take m1], nextE t ≠ 0 ∧ t.length ≤ 2000 ∧ (∀ x ∈ t, x < 256) := by
        intro t ht
        simp only [List.mem_cons, List.not_mem_nil, or_false] at ht
        rcases ht with rfl | rfl | rfl
        · exact ⟨nil_no, by simp, by simp⟩
        · exact ⟨noughts_no m2, by simp; omega, fun x hx => by rw [(List.mem_replicate.1 hx).2]; omega⟩
        · rw [hqp] at hm1 ⊢
          refine ⟨half_frame p hp1000 m1 hm1, by rw [List.length_take]; omega, fun x hx => ?_⟩
          exact frameB_lt p (HLT.out p (List.mem_of_getElem? hp)) x (List.mem_of_mem_take hx)
      have HTT := Lib.hid hT
      have HALL := Lib.hid hall
      have hmk := make_bytes m2 (by omega)
      have g1 : (0 : Int) ≤ (m1 : Int) := by omega
      have g2 : (m1 : Int) ≤ (c8 : Int) := by omega
      have g3 : ¬ c8 = 0 := by omega
      rw [List.take_length] at HF HN
      clear hT hp hqp hp1000 hall hfl HQ4 HQ3 HLE
      go_wp2_with fail
      go_region
      all_goals go_wp2_with fail
      have HALLB : Hid (BytesAt wr A7 (framesB L)) := ⟨Fresh.reads HF, framesB_lt L HLT⟩
      have HA7N : Hid (A7 = none → (framesB L).length = 0 ∧ c7 = 0) := fun h => by
        have := Fresh.none_ HF h
        rwa [List.length_map] at this
      have e1 : (List.replicate m2 0).length = m2 := List.length_replicate
      have e2 : (q.take m1).length = m1 := by rw [List.length_take]; omega
      have hrows : RowsAt ((wr.alloc (.cells (zerosA m2) 5)).alloc (.cells #[.slice none 0 0, .slice (some ⟨wr.heap.size, 0, none⟩) m2 m2, .slice A8 m1 c8] 23)).drew (some ⟨wr.heap.size + 1, 0, none⟩) [[], List.replicate m2 0, q.take m1] := by
        have hB := Blk.new (wr.alloc (.cells (zerosA m2) 5)) 23 #[.slice none 0 0, .slice (some ⟨wr.heap.size, 0, none⟩) m2 m2, .slice A8 m1 c8]
        rw [World.size_alloc] at hB
        have hZ := (zeros_at wr m2).keep ((Keep.refl (fun _ => False) (wr.alloc (.cells (zerosA m2) 5))).alloc (.cells #[.slice none 0 0, .slice (some ⟨wr.heap.size, 0, none⟩) m2 m2, .slice A8 m1 c8] 23))
        have hQ := (BytesAt.take HQ m1).keep (((Keep.refl (fun _ => False) wr).alloc (.cells (zerosA m2) 5)).alloc (.cells #[.slice none 0 0, .slice (some ⟨wr.heap.size, 0, none⟩) m2 m2, .slice A8 m1 c8] 23))
        intro i t hi
        match i, hi with
        | 0, hi =>
          simp at hi
          subst hi
          exact ⟨_, _, none, 0, rfl, hB.cell 0, bytes_nil _, (fun _ => ⟨rfl, rfl⟩), by simp⟩
        | 1, hi =>
          simp at hi
          subst hi
          refine ⟨_, _, some ⟨wr.heap.size, 0, none⟩, m2, rfl, ?_, hZ, (fun h => by cases h), by omega⟩
          rw [e1]
          exact hB.cell 1
        | 2, hi =>
          simp at hi
          subst hi
          refine ⟨_, _, A8, c8, rfl, ?_, hQ, ?_, by omega⟩
          · rw [e2]
            exact hB.cell 2
          · intro h
            obtain ⟨g', o', h', _⟩ := (show BytesAt wr A8 q from HQ).place (by omega)
            rw [h] at h'
            cases h'
      have HK2 : Hid (Keep (fun _ => False) wr ((wr.alloc (.cells (zerosA m2) 5)).alloc (.cells #[.slice none 0 0, .slice (some ⟨wr.heap.size, 0, none⟩) m2 m2, .slice A8 m1 c8] 23)).drew) := (((Keep.refl (fun _ => False) wr).alloc (.cells (zerosA m2) 5)).alloc _).drew
      have HKW : Hid (Keep (fun _ => False) w ((wr.alloc (.cells (zerosA m2) 5)).alloc (.cells #[.slice none 0 0, .slice (some ⟨wr.heap.size, 0, none⟩) m2 m2, .slice A8 m1 c8] 23)).drew) := Keep.trans HK HK2 (fun _ _ h => h)
      have HR := Lib.hid hrows
      have HB2 := Lib.hid (BytesAt.keep HALLB HK2)
      have HEN := Lib.hid (framesB_length L)
      obtain ⟨TL, hTL⟩ : ∃ TL, TL = [[], List.replicate m2 0, q.take m1] := ⟨_, rfl⟩
      have h3 : TL.length = 3 := by rw [hTL]; rfl
      have H3 := Lib.hid h3
      rw [← hTL] at HTT HR
      clear hTL hrows e1 e2 h3 HALLB HK2 HF HQ hmk
      have hn7 : n = (framesB L).length := HN.out
      have HN7 := Lib.hid hn7
      clear hn7 HN
      generalize ((wr.alloc (.cells (zerosA m2) 5)).alloc (.cells #[.slice none 0 0, .slice (some ⟨wr.heap.size, 0, none⟩) m2 m2, .slice A8 m1 c8] 23)).drew = W2 at *
      go_loopw [66] (fun i wr => ∃ k : Nat, k ≤ 3 ∧ i = .int .i64 k ∧ Keep (fun _ => False) W2 wr) (fun i _ => 3 - (intOf i).toNat)
      case atStart => exact ⟨0, by omega, rfl, Keep.refl _ _⟩
      case round =>
        obtain ⟨k, hk3, rfl, hK2⟩ := hrel
        have HK2 := Lib.hid hK2
        clear hK2
        by_cases hlt3 : k < 3
        · obtain ⟨t, ht⟩ : ∃ t, TL[k]? = some t := ⟨_, List.getElem?_eq_getElem (by rw [H3.out]; exact hlt3)⟩
          obtain ⟨gT, oT, At, ct, hgT, hcT, hbT, hnT, _⟩ := RowsAt.keep HR HK2 k t ht
          cases hgT
          rw [Nat.zero_add] at hcT
          obtain ⟨t1, t2, t3⟩ := HTT.out t (List.mem_of_getElem? ht)
          have HBT := Lib.hid hbT
          have HNT := Lib.hid hnT
          have T1 := Lib.hid t1
          have T3 := Lib.hid t3
          clear hbT hnT t1 t3 ht
          have HB3 := Lib.hid (BytesAt.keep HB2 HK2)
          have HLB := Lib.hid (show ((framesB L).map bv).length = n by rw [List.length_map]; exact HN7.out.symm)
          have HO := Lib.hid (bytes_oneCell (framesB L))
          have HLB2 := Lib.hid (show (t.map bv).length = t.length from List.length_map _)
          have HO2 := Lib.hid (bytes_oneCell t)
          have HA7M : Hid (A7 = none → n = 0 ∧ c7 = 0) := fun h => ⟨HN7.out.trans (HA7N.out h).1, (HA7N.out h).2⟩
          have HMD : Hid (Fresh (wr.alloc (.cells #[] 5)) wr.heap.size 5 (some ⟨wr.heap.size, 0, none⟩) 0 0 []) := Fresh.made wr 5 (Nat.le_refl _)
          have HKA : Hid (Keep (fun _ => False) wr (wr.alloc (.cells #[] 5))) := (Keep.refl _ wr).alloc _
          have HRA := Lib.hid (BytesAt.keep HB3 HKA).1
          go_wp2_with (at_builtin; go_must (refine wpList_append_onto1 _ rfl _ _ _ rfl wr.heap.size 5 i0 (.int .u8 0) 1 Try.underlying23 hi hz0 hz1 hz2 rfl (some ⟨wr.heap.size, 0, none⟩) 0 0 [] rfl HMD.out A7 n c7 ((framesB L).map bv) rfl HLB.out HRA.out HA7M.out HO.out (by omega) (by omega) (by simp) ?_))
          intro A9 c9 w3 hF3 hK3
          have HK3 : Hid (Keep (fun _ => False) wr w3) := Keep.trans HKA hK3 (fun i hi (h : wr.heap.size = i) => by omega)
          have HF3 := Lib.hid hF3
          have HRT := Lib.hid (BytesAt.keep HBT HK3).1
          have HS3 := Lib.hid (Keep.size HK3)
          clear hF3 hK3 HKA HMD HRA
          go_wp2_with (at_builtin; go_must (refine wpList_append_onto1 _ rfl _ _ _ rfl wr.heap.size 5 i0 (.int .u8 0) 1 Try.underlying23 hi hz0 hz1 hz2 rfl A9 n c9 ((framesB L).map bv) rfl HF3.out At t.length ct (t.map bv) rfl HLB2.out HRT.out HNT.out HO2.out (by omega) (by omega) HS3.out ?_))
          intro A10 c10 w4 hF4 hK4
          rw [← List.map_append] at hF4
          have HK4 := Lib.hid (keep_new HK3 HF3 hK4)
          have hlens := Fresh.lens hF4
          have HB4 : Hid (BytesAt w4 A10 (framesB L ++ t)) := Fresh.bytes hF4 (fun x hx => by
            rcases List.mem_append.1 hx with h | h
            · exact framesB_lt L HLT x h
            · exact T3.out x h)
          have hsc : scans (framesB L ++ t) = L := by rw [scans_frames L t HALL, scans_no T1.out, List.append_nil]
          have HSC := Lib.hid hsc
          clear hF4 hK4 HK3 HF3 HRT HS3 hsc
          go_wp2_with fail
          refine (scan_at A10 c10 (n + t.length) (framesB L ++ t) _ (by rw [List.length_append, ← HN7.out]) HB4 hlens.1 hlens.2 (by omega)).mono ?_
          rintro e w5 ⟨AM, cM, rfl, hR5, hk5⟩
          rw [HSC.out, ← HEN.out, ← HN7.out] at *
          have HK5 : Hid (Keep (fun _ => False) wr w5) := Keep.trans HK4 hk5 (fun _ _ h => h)
          have HR5 := Lib.hid hR5
          clear hR5 hk5 HK4 HB4
          go_wp2_with fail
          have HKT : Hid (Keep (fun _ => False) W2 w5) := Keep.trans HK2 HK5 (fun _ _ h => h)
          clear HK5 HK2 HB3 HLB HO HLB2 HO2 HA7M HBT HNT T1 T3
          go_loopw [92] (fun i wr3 => ∃ j : Nat, j ≤ L.length ∧ i = .int .i64 j ∧ Keep (fun _ => False) w5 wr3) (fun i _ => L.length - (intOf i).toNat)
          case atStart => exact ⟨0, by omega, rfl, Keep.refl _ _⟩
          case round =>
            obtain ⟨j, hj, rfl, hK3⟩ := hrel
            have HK3 := Lib.hid hK3
            clear hK3
            by_cases hltj : j < L.length
            · obtain ⟨r, hr⟩ : ∃ r, L[j]? = some r := ⟨_, List.getElem?_eq_getElem hltj⟩
              obtain ⟨gM, oM, Am, cm, rfl, hcM, hbM, _, _⟩ := RowsAt.keep HR5 HK3 j r hr
              obtain ⟨gL, oL, Al, cl, rfl, hcL, hbL, _, _⟩ := RowsAt.keep HL (Keep.trans (Keep.trans HKW HKT (fun _ _ h => h)) HK3 (fun _ _ h => h)) j r hr
              have HBM := Lib.hid hbM
              have HBL := Lib.hid hbL
              have j1 : (0 : Int) ≤ (j : Int) := by omega
              have j2 : (j : Int) < (L.length : Int) := by omega
              clear hbM hbL hr
              go_wp2_with fail
              go_quiet ((go_at_call 12; exact Calls.quiet_of_same (equal_yes _ _ _ _ _ _ r _ rfl rfl (BytesAt.keep HBM (Keep.drewN (Keep.refl _ _) _)) (BytesAt.keep HBL (Keep.drewN (Keep.refl _ _) _)))))
              go_wp2_with fail
              exact ⟨⟨j + 1, by omega, by push_cast; rfl, Keep.drewN HK3 _⟩, by simp [intOf]; omega⟩
            · have : j = L.length := by omega
              subst this
              go_wp2_with fail
              exact ⟨⟨k + 1, by omega, by push_cast; rfl, Keep.trans HKT HK3 (fun _ _ h => h)⟩, by simp [intOf]; omega⟩
        · have : k = 3 := by omega
          subst this
          go_wp2_with fail
          refine (alive_does _).mono ?_
          rintro e w4 ⟨rfl, hk4⟩
          have HK4 : Hid (Keep (fun _ => False) w w4) := Keep.trans (Keep.trans HKW HK2 (fun _ _ h => h)) hk4 (fun _ _ h => h)
          clear hk4 HK2
          go_wp2_with fail
          exact bodyPost_ret (v := .bool true) (by simp [results, Try.results3, go_sem]) rfl ⟨rfl, HK4⟩
end Go.Proofs.Ytopdedhdfaomfaa
