/- FrameTorn walked. -/
import Derived.Test.YtopdedhdfaomfaaTo
import Derived.Sort.AtCall
namespace Go.Proofs.Ytopdedhdfaomfaa
open Go.RowKit Go.BigFrame
theorem info_int : (Try.prog.info? 3).map (fun i => (i.zero, i.size, i.bytes)) = some (some (.int .i64 0), 1, 8) := by kernel_rfl
/-- Where each frame begins. -/
def atsV (L : List (List Nat)) (k : Nat) : List Value := (List.range k).map fun i => Value.int .i64 (ends (L.take i) : Nat)
theorem atsV_succ (L : List (List Nat)) (k : Nat) : atsV L (k + 1) = atsV L k ++ [.int .i64 (ends (L.take k) : Nat)] := by simp [atsV, List.range_succ]
theorem atsV_length (L : List (List Nat)) (k : Nat) : (atsV L k).length = k := by simp [atsV]
theorem atsV_get (L : List (List Nat)) (k i : Nat) (h : i < k) : (atsV L k)[i]? = some (.int .i64 (ends (L.take i) : Nat)) := by simp [atsV, h]
theorem ends_take_le (L : List (List Nat)) (i : Nat) : ends (L.take i) ≤ ends L := by
  conv => rhs; rw [← List.take_append_drop i L, ends_append]
  omega
theorem Fresh.set {w : World} {base g n c : Nat} {e : TypeId} {xs : List Value} (h : Fresh w base e (some ⟨g, 0, none⟩) n c xs) (t : Nat) (v : Value) : Fresh (w.setCell ⟨g, t, none⟩ v) base e (some ⟨g, 0, none⟩) n c (xs.set t v) := by
  rcases h with ⟨hl, ⟨hv, _⟩ | ⟨g', cap, cur, hv, hg, hh, hnc, hcm, hsz, htk⟩⟩
  · cases hv
  · injection hv with h1 h2 h3
    injection h1 with h1
    injection h1 with h1
    subst h1 h3
    refine ⟨by rw [List.length_set]; exact hl, .inr ⟨g, _, cur.setIfInBounds t v, rfl, hg, Blk.set_ (show Blk w g e cur from hh) t v, hnc, hcm, by rw [Array.size_setIfInBounds]; exact hsz, ?_⟩⟩
    rw [Array.toList_setIfInBounds, ← htk, List.take_set]
theorem Fresh.free {w : World} {base g n c : Nat} {e : TypeId} {xs : List Value} (h : Fresh w base e (some ⟨g, 0, none⟩) n c xs) (t : Nat) : w.frozen? ⟨g, t, none⟩ = false := by
  rcases h with ⟨hl, ⟨hv, _⟩ | ⟨g', cap, cur, hv, hg, hh, hr⟩⟩
  · cases hv
  · injection hv with h1 h2 h3
    injection h1 with h1
    injection h1 with h1
    subst h1
    exact Blk.frozen (show Blk w g e cur from hh) t
theorem Fresh.cellAt {w : World} {base g n c : Nat} {e : TypeId} {xs : List Value} (h : Fresh w base e (some ⟨g, 0, none⟩) n c xs) {t : Nat} {v : Value} (hv : xs[t]? = some v) : w.cell? ⟨g, t, none⟩ = some v := by
  obtain ⟨g', o', e', hc⟩ := h.reads t v hv
  cases e'
  rw [Nat.zero_add] at hc
  exact hc
theorem Fresh.blk_ {w : World} {base g n c : Nat} {e : TypeId} {xs : List Value} (h : Fresh w base e (some ⟨g, 0, none⟩) n c xs) : base ≤ g ∧ ∃ cur, Blk w g e cur := by
  rcases h with ⟨hl, ⟨hv, _⟩ | ⟨g', cap, cur, hv, hg, hh, hr⟩⟩
  · cases hv
  · injection hv with h1 h2 h3
    injection h1 with h1
    injection h1 with h1
    subst h1
    exact ⟨hg, cur, hh⟩
theorem ends_in {L : List (List Nat)} {k : Nat} {p : List Nat} (hp : L[k]? = some p) : ends (L.take k) + (6 + p.length) ≤ ends L := by
  have h := ends_take_le L (k + 1)
  obtain ⟨hk, rfl⟩ := List.getElem?_eq_some_iff.1 hp
  rw [List.take_succ_eq_append_getElem hk, ends_snoc] at h
  exact h
set_option maxRecDepth 100000 in
set_option maxHeartbeats 8000000 in
theorem torn_any (A : Option Addr) (c : Nat) (L : List (List Nat)) (kk bit : Int) (w : World) (hL : RowsAt w A L) (hreach : L.length * 24 ≤ 140737488351232) :
    Calls Try.prog 5 #[.slice A L.length c, .int .i64 kk, .int .i64 bit] w fun e w' => e = .returned (.bool true) ∧ Keep (fun _ => False) w w' := by
  obtain ⟨i0, hi, hz0, hz1, hz2⟩ := info_parts info_byte
  obtain ⟨i3, hi3, hz30, hz31, hz32⟩ := info_parts info_int
  have HI := Lib.hid hi
  have HI3 := Lib.hid hi3
  clear hi hi3
  have HL := Lib.hid hL
  have HLT := Lib.hid hL.lt
  clear hL
  go_enter Try.func5, Try.ntmps5
  go_wp2_with fail
  go_loopw [7, 8, 17] (fun y z i wr => ∃ (k n : Nat) (A7 A8 : Option Addr) (c7 c8 : Nat), k ≤ L.length ∧ i = .int .i64 k ∧ n = (framesB (L.take k)).length ∧ n ≤ 5000 ∧ 6 * k ≤ n ∧ y = .slice A7 n c7 ∧ Fresh wr w.heap.size 5 A7 n c7 ((framesB (L.take k)).map bv) ∧ z = .slice A8 k c8 ∧ Fresh wr w.heap.size 3 A8 k c8 (atsV L k) ∧ (∀ p ∈ L.take k, p.length ≤ 1000) ∧ Keep (fun _ => False) w wr) (fun _ _ i _ => L.length - (intOf i).toNat)
  case atStart =>
    exact ⟨0, 0, none, none, 0, 0, by omega, rfl, rfl, by omega, by omega, rfl, World.ownsRow_nil _ _ _ _, rfl, World.ownsRow_nil _ _ _ _, (fun p hp => by simp at hp), Keep.refl _ w⟩
  case round =>
    obtain ⟨k, n, A7, A8, c7, c8, hk, rfl, hn, hn5, hn6, rfl, hF, rfl, hG, hle, hkeep⟩ := hrel
    have HF := Lib.hid hF
    have HG := Lib.hid hG
    have HK := Lib.hid hkeep
    have HN := Lib.hid hn
    have HLE := Lib.hid hle
    clear hF hG hkeep hn hle
    by_cases hlt : k < L.length
    · obtain ⟨p, hp⟩ : ∃ p, L[k]? = some p := ⟨_, List.getElem?_eq_getElem hlt⟩
      obtain ⟨g, o, Ap, cp, rfl, hcell, hbp, hnp, hlp⟩ := RowsAt.keep HL HK k p hp
      have HSN := Lib.hid (ends_map hp)
      have HBP := Lib.hid hbp
      have HNP := Lib.hid hnp
      have hfl := frameB_length p
      have HFL := Lib.hid hfl
      have HAS : Hid (atsV L (k + 1) = atsV L k ++ [.int .i64 (n : Int)]) := by rw [atsV_succ, HN.out, framesB_length]; rfl
      have HTK : Hid (p.length ≤ 1000 → ∀ r ∈ L.take (k + 1), r.length ≤ 1000) := by
        intro h1 r hr
        obtain ⟨hk', rfl⟩ := List.getElem?_eq_some_iff.1 hp
        rw [List.take_succ_eq_append_getElem hk', List.mem_append] at hr
        rcases hr with hr | hr
        · exact HLE.out r hr
        · simp at hr; subst hr; exact h1
      clear hp hbp hnp hfl HLE
      by_cases hbig : 1000 < p.length
      · go_wp2_with fail
        refine (pack_long Ap p.length cp _ hbig hlp).mono ?_
        rintro e w3 ⟨rfl, rfl⟩
        go_wp2_with fail
        refine (alive_does _).mono ?_
        rintro e w4 ⟨rfl, hk4⟩
        have HK4 : Hid (Keep (fun _ => False) w w4) := Keep.trans HK hk4 (fun _ _ h => h)
        clear hk4 HK
        go_wp2_with fail
        exact bodyPost_ret (v := .bool true) (by simp [results, Try.results5, go_sem]) rfl ⟨rfl, HK4⟩
      go_wp2_with fail
      refine (pack_at Ap cp p.length p (frameB p) _ rfl rfl HBP HNP.out (by omega)).mono ?_
      rintro e w3 ⟨Af, cf, rfl, hFf, hk3⟩
      have HK3 : Hid (Keep (fun _ => False) w w3) := Keep.trans HK hk3 (fun _ _ h => h)
      have HF3 : Hid (Fresh w3 w.heap.size 5 A7 n c7 ((framesB (L.take k)).map bv)) := Fresh.keep HF hk3 (fun _ _ _ h => h)
      have HG3 : Hid (Fresh w3 w.heap.size 3 A8 k c8 (atsV L k)) := Fresh.keep HG hk3 (fun _ _ _ h => h)
      have HFF := Lib.hid (hFf.base_le (Keep.size HK))
      clear hFf hk3 HK HF HG
      by_cases hfull : 3000 < n
      · go_wp2_with fail
        refine (alive_does _).mono ?_
        rintro e w4 ⟨rfl, hk4⟩
        have HK4 : Hid (Keep (fun _ => False) w w4) := Keep.trans HK3 hk4 (fun _ _ h => h)
        clear hk4 HK3
        go_wp2_with fail
        exact bodyPost_ret (v := .bool true) (by simp [results, Try.results5, go_sem]) rfl ⟨rfl, HK4⟩
      -- at = append(at, len(all))
      have HKA : Hid (Keep (fun _ => False) w (w3.alloc (.cells #[.int .i64 (n : Int)] 3))) := Keep.alloc HK3 _
      have HSA := Lib.hid (Keep.size HKA)
      have HGA : Hid (Fresh (w3.alloc (.cells #[.int .i64 (n : Int)] 3)) w.heap.size 3 A8 k c8 (atsV L k)) := Fresh.alloc HG3 _
      have HFA : Hid (Fresh (w3.alloc (.cells #[.int .i64 (n : Int)] 3)) w.heap.size 5 A7 n c7 ((framesB (L.take k)).map bv)) := Fresh.alloc HF3 _
      have HPA : Hid (Fresh (w3.alloc (.cells #[.int .i64 (n : Int)] 3)) w.heap.size 5 Af (frameB p).length cf ((frameB p).map bv)) := Fresh.alloc HFF _
      go_wp2_with (at_builtin; go_must (refine wpList_append_onto1 _ rfl _ _ _ rfl w.heap.size 3 i3 (.int .i64 0) 8 Try.underlying33 HI3.out hz30 hz31 hz32 rfl A8 k c8 (atsV L k) rfl HGA.out (some ⟨w3.heap.size, 0, none⟩) 1 1 [.int .i64 (n : Int)] rfl rfl reads_one (fun h => nomatch h) (fun u hu => by simp at hu; subst hu; rfl) (by omega) (by omega) HSA.out ?_))
      intro A9 c9 w4 hG4 hK4
      rw [← HAS.out] at hG4
      have HG4 := Lib.hid hG4
      have hKR : Keep (fun k' => (Value.slice A8 k c8).ownBlock = some k') (w3.alloc (.cells #[.int .i64 (n : Int)] 3)) w4 := hK4.mono (fun i _ ⟨o, h⟩ => by rw [h]; rfl)
      have HF4 := Lib.hid (Fresh.keep_row HFA HGA (by decide) hKR)
      have HP4 := Lib.hid (Fresh.keep_row HPA HGA (by decide) hKR)
      have HK4 := Lib.hid (keep_new HKA HGA hK4)
      have hSZ4 := hK4.size
      clear hG4 hK4 hKR HFA HGA HPA HKA HSA HK3 HF3 HG3 HFF
      -- all = append(all, b...)
      have HLB := Lib.hid (show ((frameB p).map bv).length = (frameB p).length from List.length_map _)
      have HO := Lib.hid (bytes_oneCell (frameB p))
      have HFN : Hid (Af = none → (frameB p).length = 0 ∧ cf = 0) := fun h => by
        have := Fresh.none_ HP4 h
        rwa [List.length_map] at this
      have HS := Lib.hid (Keep.size HK4)
      have hfl6 : (frameB p).length ≤ 1006 := by rw [HFL.out]; omega
      have hfl7 : 6 ≤ (frameB p).length := by rw [HFL.out]; omega
      have HR4 := Lib.hid (Fresh.reads HP4)
      go_wp2_with (at_builtin; go_must (refine wpList_append_onto1 _ rfl _ _ _ rfl w.heap.size 5 i0 (.int .u8 0) 1 Try.underlying23 HI.out hz0 hz1 hz2 rfl A7 n c7 ((framesB (L.take k)).map bv) rfl HF4.out Af (frameB p).length cf ((frameB p).map bv) rfl HLB.out HR4.out HFN.out HO.out (by omega) (by omega) HS.out ?_))
      intro A10 c10 w5 hF5 hK5
      rw [← List.map_append, ← HSN.out] at hF5
      have HK5 := Lib.hid (keep_new HK4 HF4 hK5)
      have HF5 := Lib.hid hF5
      have HG5 := Lib.hid (Fresh.keep_row HG4 HF4 (by decide) (hK5.mono (fun i _ ⟨o, h⟩ => by rw [h]; rfl)))
      clear hF5 hK5 HK4 HF4 HG4 HP4 HS HR4
      go_wp2_with fail
      refine ⟨⟨k + 1, n + (frameB p).length, A10, A9, c10, c9, by omega, by push_cast; rfl, ?_, by omega, by omega, rfl, HF5, rfl, HG5, HTK.out (by omega), HK5⟩, by simp [intOf]; omega⟩
      rw [HSN.out, List.length_append, ← HN.out]
    · have : k = L.length := by omega
      subst this
      by_cases h1 : kk < 0
      · go_wp2_with fail
        refine (alive_does _).mono ?_
        rintro e w4 ⟨rfl, hk4⟩
        have HK4 : Hid (Keep (fun _ => False) w w4) := Keep.trans HK hk4 (fun _ _ h => h)
        clear hk4 HK
        go_wp2_with fail
        exact bodyPost_ret (v := .bool true) (by simp [results, Try.results5, go_sem]) rfl ⟨rfl, HK4⟩
      by_cases h2 : (L.length : Int) ≤ kk
      · go_wp2_with fail
        refine (alive_does _).mono ?_
        rintro e w4 ⟨rfl, hk4⟩
        have HK4 : Hid (Keep (fun _ => False) w w4) := Keep.trans HK hk4 (fun _ _ h => h)
        clear hk4 HK
        go_wp2_with fail
        exact bodyPost_ret (v := .bool true) (by simp [results, Try.results5, go_sem]) rfl ⟨rfl, HK4⟩
      by_cases h3 : bit < 16
      · go_wp2_with fail
        refine (alive_does _).mono ?_
        rintro e w4 ⟨rfl, hk4⟩
        have HK4 : Hid (Keep (fun _ => False) w w4) := Keep.trans HK hk4 (fun _ _ h => h)
        clear hk4 HK
        go_wp2_with fail
        exact bodyPost_ret (v := .bool true) (by simp [results, Try.results5, go_sem]) rfl ⟨rfl, HK4⟩
      obtain ⟨k, rfl⟩ : ∃ m : Nat, kk = m := ⟨kk.toNat, by omega⟩
      obtain ⟨q, rfl⟩ : ∃ m : Nat, bit = m := ⟨bit.toNat, by omega⟩
      have hkl : k < L.length := by omega
      obtain ⟨p, hp⟩ : ∃ p, L[k]? = some p := ⟨_, List.getElem?_eq_getElem hkl⟩
      obtain ⟨g, o, Ap, cp, rfl, hcell, hbp, hnp, hlp⟩ := RowsAt.keep HL HK k p hp
      have hall : ∀ r ∈ L, r.length ≤ 1000 := by
        have := HLE.out
        rwa [List.take_length] at this
      have hp1000 := hall p (List.mem_of_getElem? hp)
      have HP := Lib.hid hp
      have HALL := Lib.hid hall
      rw [List.take_length] at HF HN
      clear hp hbp hnp hall HLE
      by_cases h4 : 8 * (6 + (p.length : Int)) ≤ (q : Int)
      · go_wp2_with fail
        refine (alive_does _).mono ?_
        rintro e w4 ⟨rfl, hk4⟩
        have HK4 : Hid (Keep (fun _ => False) w w4) := Keep.trans HK hk4 (fun _ _ h => h)
        clear hk4 HK
        go_wp2_with fail
        exact bodyPost_ret (v := .bool true) (by simp [results, Try.results5, go_sem]) rfl ⟨rfl, HK4⟩
      have hq2 : q < 8 * (6 + p.length) := by omega
      have hein := ends_in HP.out
      have hsc := torn_scans L k p HP.out HALL.out q (by omega) hq2
      have hel := framesB_length L
      rw [hel] at HN
      obtain ⟨g8, rfl⟩ := Fresh.some_ HG (by omega)
      obtain ⟨g7, rfl⟩ := Fresh.some_ HF (by omega)
      have hc8 := Fresh.cellAt HG (atsV_get L L.length k hkl)
      have hnE : n = ends L := HN.out
      generalize hE : ends (L.take k) = E at *
      have hlt8 : E + q / 8 < (framesB L).length := by omega
      have hc7 := Fresh.cellAt HF (t := E + q / 8) (v := bv ((framesB L).getD (E + q / 8) 0)) (by rw [List.getElem?_map, List.getElem?_eq_getElem hlt8, List.getD_eq_getElem?_getD, List.getElem?_eq_getElem hlt8]; rfl)
      have hf7 := Fresh.free HF (E + q / 8)
      have hx : (framesB L).getD (E + q / 8) 0 < 256 := by
        rw [List.getD_eq_getElem?_getD, List.getElem?_eq_getElem hlt8]
        exact framesB_lt L HLT _ (List.getElem_mem _)
      have hturn : turn (framesB L) (8 * E + q) = (framesB L).set (E + q / 8) ((framesB L).getD (E + q / 8) 0 ^^^ 2 ^ (q % 8)) := by
        unfold turn
        rw [show (8 * E + q) / 8 = E + q / 8 by omega, show (8 * E + q) % 8 = q % 8 by omega]
      have HSC := Lib.hid hsc
      have HTU := Lib.hid hturn
      have HEE := Lib.hid hE
      have HXX : Hid (∃ x, x = (framesB L).getD (E + q / 8) 0) := ⟨_, rfl⟩
      have hk0 : (0 : Int) ≤ (k : Int) := by omega
      have hk1 : (k : Int) < (L.length : Int) := by omega
      have hq0 : (0 : Int) ≤ (E : Int) + (q : Int) / 8 := by omega
      have hq1 : (E : Int) + (q : Int) / 8 < (n : Int) := by omega
      generalize hxv : (framesB L).getD (E + q / 8) 0 = x at hc7 hx
      have HXV := Lib.hid hxv
      clear hein hsc hel hE hlt8 hturn hxv HP HN
      go_wp2_with fail
      refine region_tail 15 (by kernel_rfl) (by kernel_rfl) ?_
      simp only [List.take, List.drop]
      repeat (go_big_quiet_step (fail))
      refine wpQuiet_nil ?_
      go_wp2_with fail
      have hv : Value.int .u8 (bits .xor .u8 (x : Int) (2 ^ (q % 8) % 256)) = bv (x ^^^ 2 ^ (q % 8)) := by
        have hp8 : 2 ^ (q % 8) < 256 := Nat.pow_lt_pow_right (n := 8) (by omega) (Nat.mod_lt _ (by omega))
        have e : ((2 : Int) ^ (q % 8) % 256) = ((2 ^ (q % 8) : Nat) : Int) := by
          rw [show ((2 : Int) ^ (q % 8)) = ((2 ^ (q % 8) : Nat) : Int) by push_cast; rfl]
          generalize 2 ^ (q % 8) = z at hp8
          omega
        rw [e, u8_xor_nat _ _ hx hp8]
      rw [hv]
      clear hv
      obtain ⟨hg7, cur7, hb7⟩ := Fresh.blk_ HF
      have HF1 : Hid (Fresh (wr.setCell ⟨g7, E + q / 8, none⟩ (bv (x ^^^ 2 ^ (q % 8)))).drew w.heap.size 5 (some ⟨g7, 0, none⟩) n c7 ((turn (framesB L) (8 * E + q)).map bv)) := by
        rw [HTU.out, List.map_set, HXV.out]
        exact (Fresh.set HF (E + q / 8) (bv (x ^^^ 2 ^ (q % 8)))).drew
      have HG1 : Hid (Fresh (wr.setCell ⟨g7, E + q / 8, none⟩ (bv (x ^^^ 2 ^ (q % 8)))).drew w.heap.size 3 (some ⟨g8, 0, none⟩) L.length c8 (atsV L L.length)) := (Fresh.far HG hb7 (by decide) _ _).drew
      have HK1 : Hid (Keep (fun _ => False) w (wr.setCell ⟨g7, E + q / 8, none⟩ (bv (x ^^^ 2 ^ (q % 8)))).drew) := (Keep.setCell HK (fun h => absurd h (by simp; omega)) _).drew
      have HLN : Hid ((turn (framesB L) (8 * E + q)).length = ends L) := by rw [Hid, turn_length, framesB_length]
      have HTL := Lib.hid (turn_lt (framesB L) (8 * E + q) (framesB_lt L HLT))
      have hlens := Fresh.lens HF
      rw [hnE] at hlens
      clear hc7 hc8 hf7 hb7 HF HG HK HTU HXV HXX
      generalize (wr.setCell ⟨g7, E + q / 8, none⟩ (bv (x ^^^ 2 ^ (q % 8)))).drew = W1 at *
      refine (scan_at (some ⟨g7, 0, none⟩) c7 (ends L) (turn (framesB L) (8 * E + q)) _ HLN.out (Fresh.bytes HF1 HTL) hlens.1 hlens.2 (by omega)).mono ?_
      rintro e w5 ⟨AM, cM, rfl, hR5, hk5⟩
      rw [HSC.out, HEE.out]
      have hlk : (L.take k).length = k := by rw [List.length_take]; omega
      rw [hlk]
      have HK5 : Hid (Keep (fun _ => False) w w5) := Keep.trans HK1 hk5 (fun _ _ h => h)
      have HG5 := Lib.hid (Fresh.keep HG1 hk5 (fun _ _ _ h => h))
      clear hR5 hk5 HF1 HG1 HK1 hlk
      go_wp2_with fail
      refine (alive_does _).mono ?_
      rintro e w6 ⟨rfl, hk6⟩
      have HK6 : Hid (Keep (fun _ => False) w w6) := Keep.trans HK5 hk6 (fun _ _ h => h)
      have hc8 := Fresh.cellAt (Fresh.keep HG5 hk6 (fun _ _ _ h => h)) (atsV_get L L.length k hkl)
      rw [HEE.out] at hc8
      clear hk6 HK5 HG5
      go_wp2_with fail
      exact bodyPost_ret (v := .bool true) (by simp [results, Try.results5, go_sem]) rfl ⟨rfl, HK6⟩
end Go.Proofs.Ytopdedhdfaomfaa
