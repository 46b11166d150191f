/- alive walked. -/
import Derived.Test.YtopdedhdfaomfaaSc
import Derived.Deep.RegionLaw
import Derived.Laws.MakeOwn
namespace Go.Proofs.Ytopdedhdfaomfaa
open Go.RowKit Go.BigFrame
/-- n noughts. -/
def zerosA (n : Nat) : Array Value := Array.replicate n (.int .u8 0)
theorem zerosA_eq (n : Nat) : zerosA n = ((List.replicate n 0).map bv).toArray := by simp [zerosA, bv]
theorem make_bytes (n : Nat) (hn : n ≤ 100000) (W : World) : (Instr.makeSlice 23 (.int .i64 (n : Int)) (.int .i64 (n : Int))).run Try.prog W = .ok (.slice (some ⟨W.heap.size, 0, none⟩) n n) (W.alloc (.cells (zerosA n) 5)) := by
  obtain ⟨i0, hi, hz0, hz1, hz2⟩ := info_parts info_byte
  have h := run_make (P := Try.prog) W 23 5 i0 (.int .u8 0) Try.underlying23 hi hz0 .i64 .i64 n n (by omega) (by omega) (by rw [hz2]; omega) (by omega)
  rw [h, hz1]
  simp only [Int.toNat_natCast, Nat.mul_one]
  have e : madeCells (Value.int .u8 0).cells n = zerosA n := by
    apply Array.ext
    · simp [madeCells, zerosA]
    · intro i h1 h2
      simp [madeCells, zerosA, Value.cells, Nat.mod_one]
  rw [e]
theorem zeros_at (W : World) (n : Nat) : BytesAt (W.alloc (.cells (zerosA n) 5)) (some ⟨W.heap.size, 0, none⟩) (List.replicate n 0) := by
  refine BytesAt.blk (t := 5) ?_ (fun x hx => by rw [(List.mem_replicate.1 hx).2]; omega)
  rw [← zerosA_eq]
  exact Blk.new W 5 _
def fr2 : List Nat := [2, 0, 5, 77, 23, 84, 97, 98]
def fr0 : List Nat := [0, 0, 255, 18, 217, 65]
def allB : List Nat := [2, 0, 5, 77, 23, 84, 97, 98, 0, 0, 255, 18, 217, 65, 2, 0, 5, 77, 23]
theorem frame_two : frameB [97, 98] = fr2 := by kernel_rfl
theorem frame_nil : frameB [] = fr0 := by kernel_rfl
theorem all_eq : fr2 ++ fr0 ++ fr2.take 5 = allB := by kernel_rfl
theorem next_two : nextE fr2 = 0 := by kernel_rfl
theorem many_two : many fr2 = 2 := by kernel_rfl
theorem payload_two : payload fr2 = [97, 98] := by kernel_rfl
theorem next_zeros : nextE (List.replicate 20 0) = 111 := by kernel_rfl
theorem scans_all : scans allB = [[97, 98], []] := by
  have h1 : nextE allB = 0 := by kernel_rfl
  have h2 : nextE (allB.drop (6 + many allB)) = 0 := by kernel_rfl
  have h3 : ¬ nextE ((allB.drop (6 + many allB)).drop (6 + many (allB.drop (6 + many allB)))) = 0 := by
    rw [show nextE ((allB.drop (6 + many allB)).drop (6 + many (allB.drop (6 + many allB)))) = 110 by kernel_rfl]
    omega
  rw [scans_yes h1, scans_yes h2, scans_no h3]
  have e1 : payload allB = [97, 98] := by kernel_rfl
  have e2 : payload (allB.drop (6 + many allB)) = [] := by kernel_rfl
  rw [e1, e2]
theorem ab_at (w : World) : BytesAt (w.alloc (.cells #[.int .u8 97, .int .u8 98] 5 (2, 3))) (some ⟨w.heap.size, 0, none⟩) [97, 98] := by
  refine ⟨fun i u hu => ⟨_, _, rfl, ?_⟩, by decide⟩
  have h := heap_alloc_new w (.cells #[.int .u8 97, .int .u8 98] 5 (2, 3))
  rw [Nat.zero_add, cell_of_row _ _ _ _ _ _ h]
  match i, hu with
  | 0, hu => exact hu
  | 1, hu => exact hu
theorem str_ab : strB [97, 98] = ⟨#[97, 98]⟩ := by kernel_rfl
theorem pack_at (A : Option Addr) (c n : Nat) (p f : List Nat) (w : World) (hn : p.length = n) (hf : frameB p = f) (hb : BytesAt w A p) (hz : A = none → p.length = 0 ∧ c = 0) (hl : n ≤ 1000) : Calls Try.prog 9 #[.slice A n c] w (PackPost w f) := by
  subst hn hf
  exact pack_does A c p w hb hz hl
theorem scan_at (A : Option Addr) (c n : Nat) (b : List Nat) (w : World) (hnn : b.length = n) (hb : BytesAt w A b) (hc : n ≤ c) (hcm : c ≤ 9223372036854775807)
    (hl : n ≤ 100000) : Calls Try.prog 11 #[.slice A n c] w (ScanPost w b) := by
  subst hnn
  exact scan_does A c b w hb hc hcm hl
theorem Fresh.spot {w : World} {base : Nat} {e : TypeId} {A : Option Addr} {n c : Nat} {xs : List Value} (h : Fresh w base e A n c xs) : ∀ a, A = some a → a.spot = none := by
  rintro a rfl
  rcases h.2 with ⟨hv, h0⟩ | ⟨g, cap, cur, hv, hg, hr⟩
  · cases hv
  · injection hv with h1 _ _
    injection h1 with h1
    rw [h1]
theorem Fresh.lens {w : World} {base : Nat} {e : TypeId} {A : Option Addr} {n c : Nat} {xs : List Value} (h : Fresh w base e A n c xs) : n ≤ c ∧ c ≤ 9223372036854775807 := by
  rcases h.2 with ⟨hv, h0⟩ | ⟨g, cap, cur, hv, hg, hh, hnc, hcm, hr⟩
  · injection hv with _ h2 h3
    omega
  · injection hv with _ _ h3
    unfold maxLen at hcm
    omega
theorem Fresh.bytes {w : World} {base : Nat} {A : Option Addr} {n c : Nat} {b : List Nat} (h : Fresh w base 5 A n c (b.map bv)) (hl : ∀ x ∈ b, x < 256) : BytesAt w A b := ⟨h.reads, hl⟩
theorem Fresh.some_ {w : World} {base : Nat} {e : TypeId} {A : Option Addr} {n c : Nat} {xs : List Value} (h : Fresh w base e A n c xs) (hn : n ≠ 0) : ∃ g, A = some ⟨g, 0, none⟩ := by
  rcases h.2 with ⟨hv, h0⟩ | ⟨g, cap, cur, hv, hg, hr⟩
  · omega
  · injection hv with h1 _ _
    exact ⟨g, h1⟩
theorem ReadsAs.take5 {w : World} {A : Option Addr} (h : ReadsAs w A (fr2.map bv)) : ReadsAs w A ((fr2.take 5).map bv) := by
  intro i u hu
  rw [List.map_take, List.getElem?_take] at hu
  split at hu
  · exact h _ _ hu
  · cases hu
set_option maxRecDepth 100000 in
set_option maxHeartbeats 4000000 in
theorem alive_does (w : World) : Calls Try.prog 10 #[] w fun e w' => e = .returned (.bool true) ∧ Keep (fun _ => False) w w' := by
  obtain ⟨i0, hi, hz0, hz1, hz2⟩ := info_parts info_byte
  have kc := fun (w : World) (C : Array Value) (n c : Nat) => Lib.run_convert_bytes_const (P := Try.prog) w 23 5 C n c rfl rfl
  have mk20 : ∀ W : World, (Instr.makeSlice 23 (.int .i64 20) (.int .i64 20)).run Try.prog W = .ok (.slice (some ⟨W.heap.size, 0, none⟩) 20 20) (W.alloc (.cells (zerosA 20) 5)) := make_bytes 20 (by decide)
  have mk1001 : ∀ W : World, (Instr.makeSlice 23 (.int .i64 1001) (.int .i64 1001)).run Try.prog W = .ok (.slice (some ⟨W.heap.size, 0, none⟩) 1001 1001) (W.alloc (.cells (zerosA 1001) 5)) := make_bytes 1001 (by decide)
  go_enter Try.func10, Try.ntmps10
  go_wp2_with fail
  refine (pack_at (some ⟨w.heap.size, 0, none⟩) 2 2 [97, 98] fr2 _ rfl frame_two (ab_at w) (fun h => by cases h) (by decide)).mono ?_
  rintro e w1 ⟨Aa, ca, rfl, hF, hk⟩
  have HK1 : Hid (Keep (fun _ => False) w w1) := ((Keep.refl _ w).alloc _).trans hk (fun _ _ h => h)
  have HA1 : Hid (Fresh w1 w.heap.size 5 Aa 8 ca (fr2.map bv)) := hF.base_le (by simp)
  simp only [show fr2.length = 8 from rfl]
  clear hk hF kc
  go_wp2_with fail
  refine (pack_at none 0 0 [] fr0 _ rfl frame_nil (bytes_nil _) (fun _ => ⟨rfl, rfl⟩) (by decide)).mono ?_
  rintro e w2 ⟨Ab, cb, rfl, hF, hk⟩
  have HK2 : Hid (Keep (fun _ => False) w w2) := Keep.trans HK1 hk (fun _ _ h => h)
  have HA2 : Hid (Fresh w2 w.heap.size 5 Aa 8 ca (fr2.map bv)) := Fresh.keep HA1 hk (fun _ _ _ h => h)
  have HB2 : Hid (Fresh w2 w.heap.size 5 Ab 6 cb (fr0.map bv)) := hF.base_le (Keep.size HK1)
  simp only [show fr0.length = 6 from rfl]
  clear hk hF HK1 HA1
  obtain ⟨ga, rfl⟩ := Fresh.some_ HA2 (by decide)
  obtain ⟨hlc, hlc2⟩ := Fresh.lens HA2
  have h5 : (5 : Int) ≤ (ca : Int) := by omega
  have h50 : ¬ ca = 0 := by omega
  go_wp2_with fail
  have G1 : Hid (Fresh (w2.alloc (.cells #[] 5)).drew w2.heap.size 5 (some ⟨w2.heap.size, 0, none⟩) 0 0 []) := (Fresh.made w2 5 (Nat.le_refl _)).drew
  have K1 : Hid (Keep (fun _ => False) w2 (w2.alloc (.cells #[] 5)).drew) := ((Keep.refl _ w2).alloc _).drew
  have RA := Lib.hid (Fresh.reads HA2)
  have RB := Lib.hid (Fresh.reads HB2)
  have NB := Lib.hid (Fresh.none_ HB2)
  go_region_law ((first
    | (refine step_append_onto _ (by rfl) (.tmp 29) (.tmp 30) _ (by rfl) w2.heap.size 5 i0 (.int .u8 0) 1 Try.underlying23 hi hz0 hz1 hz2 rfl (some ⟨w2.heap.size, 0, none⟩) 0 0 [] (by rfl) ?_ (some ⟨ga, 0, none⟩) 8 ca (fr2.map bv) (by rfl) rfl ?_ (fun h => nomatch h) (bytes_oneCell _) ?_ ?_ ?_ ?_; exact G1.out; exact ReadsAs.keep RA K1.out (fun _ _ _ h => h); omega; omega; exact K1.out.size; intro A3 c3 w3 hF3 hK3; rw [Nat.zero_add, List.nil_append] at hF3; have K3 := Lib.hid (keep_new K1.out G1.out hK3); clear hK3)
    | (refine step_append_onto _ (by rfl) (.tmp 31) (.tmp 32) _ (by rfl) w2.heap.size 5 i0 (.int .u8 0) 1 Try.underlying23 hi hz0 hz1 hz2 rfl A3 8 c3 (fr2.map bv) (by rfl) ?_ Ab 6 cb (fr0.map bv) (by rfl) rfl ?_ ?_ (bytes_oneCell _) ?_ ?_ ?_ ?_; exact hF3; exact ReadsAs.keep RB K3.out (fun _ _ _ h => h); exact fun h => absurd (NB.out h).1 (by decide); omega; omega; exact K3.out.size; intro A4 c4 w4 hF4 hK4; have K4 := Lib.hid (keep_new K3.out hF3 hK4); clear hK4)
    | (refine step_append_onto _ (by rfl) (.tmp 33) (.tmp 35) _ (by rfl) w2.heap.size 5 i0 (.int .u8 0) 1 Try.underlying23 hi hz0 hz1 hz2 rfl A4 14 c4 (fr2.map bv ++ fr0.map bv) (by rfl) ?_ (some ⟨ga, 0, none⟩) 5 ca ((fr2.take 5).map bv) (by rfl) rfl ?_ (fun h => nomatch h) (bytes_oneCell _) ?_ ?_ ?_ ?_; exact hF4; exact (ReadsAs.keep RA K4.out (fun _ _ _ h => h)).take5; omega; omega; exact K4.out.size; intro A5 c5 w5 hF5 hK5; have K5 := Lib.hid (keep_new K4.out hF4 hK5); clear hK5)
    | fail))
  have HF5 : Hid (Fresh w5 w2.heap.size 5 A5 19 c5 (allB.map bv)) := hF5
  have HK5 : Hid (Keep (fun _ => False) w w5) := Keep.trans HK2 K5.out (fun _ _ h => h)
  have HA5 : Hid (Fresh w5 w.heap.size 5 (some ⟨ga, 0, none⟩) 8 ca (fr2.map bv)) := Fresh.keep HA2 K5.out (fun _ _ _ h => h)
  clear hF3 hF4 hF5 K1 K3 K4 K5 RA RB NB G1 HK2 HA2 HB2
  go_wp2_with fail
  obtain ⟨g5, rfl⟩ := Fresh.some_ HF5 (by decide)
  have hl5 := (Fresh.lens HF5)
  refine (scan_at (some ⟨g5, 0, none⟩) c5 19 allB _ rfl (Fresh.bytes HF5 (by decide)) hl5.1 hl5.2 (by decide)).mono ?_
  clear hl5
  rintro e w6 ⟨A6, c6, rfl, hR, hk⟩
  rw [scans_all] at hR ⊢
  simp only [show ([[97, 98], []] : List (List Nat)).length = 2 from rfl, show ends [[97, 98], []] = 14 from rfl]
  have HK6 : Hid (Keep (fun _ => False) w w6) := Keep.trans HK5 hk (fun _ _ h => h)
  have HA6 : Hid (Fresh w6 w.heap.size 5 (some ⟨ga, 0, none⟩) 8 ca (fr2.map bv)) := Fresh.keep HA5 hk (fun _ _ _ h => h)
  have HR6 := Lib.hid hR
  clear hR hk HK5 HA5 HF5
  go_wp2_with fail
  refine (next_at (some ⟨ga, 0, none⟩) ca 8 fr2 _ rfl (Fresh.bytes HA6 (by decide)) hlc hlc2 (by decide)).mono ?_
  rintro e w7 ⟨⟨hne, _⟩ | ⟨_, A7, c7, rfl, hF7⟩, hk⟩
  · exact absurd next_two hne
  rw [payload_two] at hF7 ⊢
  rw [many_two]
  simp only [show ([97, 98] : List Nat).length = 2 from rfl, show ((6 + 2 : Nat) : Int) = 8 from rfl, show ((14 : Nat) : Int) = 14 from rfl]
  have HK7 : Hid (Keep (fun _ => False) w w7) := Keep.trans HK6 hk (fun _ _ h => h)
  have HR7 := Lib.hid (RowsAt.keep HR6 hk)
  have HF7 := Lib.hid hF7
  clear hF7 hk HK6 HR6 HA6
  go_wp2_with fail
  refine (next_at (some ⟨w7.heap.size, 0, none⟩) 20 20 (List.replicate 20 0) _ rfl (zeros_at w7 20) (by decide) (by decide) (by decide)).mono ?_
  rintro e w8 ⟨⟨_, rfl⟩ | ⟨h0, _⟩, hk⟩
  · have HK78 : Hid (Keep (fun _ => False) w7 w8) := ((Keep.refl _ w7).alloc _).trans hk (fun _ _ h => h)
    have HK8 : Hid (Keep (fun _ => False) w w8) := Keep.trans HK7 HK78 (fun _ _ h => h)
    have HR8 := Lib.hid (RowsAt.keep HR7 HK78)
    have HF8 : Hid (Fresh w8 w6.heap.size 5 A7 2 c7 (([97, 98] : List Nat).map bv)) := Fresh.keep HF7 HK78 (fun _ _ _ h => h)
    rw [next_zeros]
    simp only [show ((111 : Nat) : Int) = 111 from rfl]
    clear hk HK78 HK7 HR7 HF7 mk20
    go_wp2_with fail
    refine (pack_long (some ⟨w8.heap.size, 0, none⟩) 1001 1001 _ (by decide) (by decide)).mono ?_
    rintro e w9 ⟨rfl, rfl⟩
    have HK9 : Hid (Keep (fun _ => False) w (w8.alloc (.cells (zerosA 1001) 5))) := Keep.alloc HK8 _
    have hb9 : BytesAt (w8.alloc (.cells (zerosA 1001) 5)) A7 [97, 98] := (Fresh.bytes (Fresh.alloc HF8 _) (by decide))
    obtain ⟨g6, o6, A0, c0, rfl, q0, q1, _, _⟩ := RowsAt.keep HR8 ((Keep.refl _ w8).alloc (.cells (zerosA 1001) 5)) 0 [97, 98] rfl
    have hc1 := convert_bytes q1 c0
    have hc2 := convert_bytes hb9 c7
    rw [str_ab] at hc1 hc2
    simp only [Nat.add_zero, show ([97, 98] : List Nat).length = 2 from rfl] at hc1 hc2 q0
    generalize w8.alloc (.cells (zerosA 1001) 5) = w9 at *
    clear mk1001 q1 hb9 HR8 HF8 HK8
    go_wp2_with fail
    exact bodyPost_ret (v := .bool true) (by simp [results, Try.results10, go_sem]) rfl ⟨rfl, HK9⟩
  · rw [next_zeros] at h0
    cases h0
end Go.Proofs.Ytopdedhdfaomfaa
