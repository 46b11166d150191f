/- SumJoins walked. -/
import Derived.Test.YtibjllfabalfjaaY
namespace Go.Proofs.Ytibjllfabalfjaa
open Go.RowKit Go.BigFrame
theorem Keep.onto_new {w w5 w6 : World} {o0 : Obj} (h : Keep (fun _ => False) w (w5.alloc o0)) (hk : Keep (fun k => w5.heap.size = k) (w5.alloc o0) w6) (hs : w.heap.size ≤ w5.heap.size) : Keep (fun _ => False) w w6 :=
  h.trans hk (by
    rintro i hi rfl
    exact absurd hs (by omega))
set_option maxRecDepth 100000 in
set_option maxHeartbeats 2000000 in
theorem joins_any (A1 A2 : Option Addr) (c1 c2 : Nat) (a b : List Nat) (w : World) (ha : BytesAt w A1 a) (hb : BytesAt w A2 b) (hn1 : A1 = none → a.length = 0 ∧ c1 = 0) (hn2 : A2 = none → b.length = 0 ∧ c2 = 0) :
    Calls Try.prog 5 #[.slice A1 a.length c1, .slice A2 b.length c2] w fun e w' => e = .returned (.bool true) ∧ Keep (fun _ => False) w w' := by
  have HA := Lib.hid ha
  have HB := Lib.hid hb
  have HN1 : Hid (A1 = none → a.length = 0 ∧ c1 = 0) := hn1
  have HN2 : Hid (A2 = none → b.length = 0 ∧ c2 = 0) := hn2
  clear ha hb hn1 hn2
  obtain ⟨i0, hi, hz0, hz1, hz2⟩ := info_parts info_byte
  go_enter Try.func5, Try.ntmps5
  by_cases hla : 400 < a.length
  · go_wp2_with fail
    refine (alive_does _).mono ?_
    rintro e w2 ⟨rfl, hk⟩
    have HK := Lib.hid hk
    clear hk
    go_wp2_with fail
    exact bodyPost_ret (v := .bool true) (by simp [results, Try.results5, go_sem]) rfl ⟨rfl, HK⟩
  by_cases hlb : 400 < b.length
  · go_wp2_with fail
    refine (alive_does _).mono ?_
    rintro e w2 ⟨rfl, hk⟩
    have HK := Lib.hid hk
    clear hk
    go_wp2_with fail
    exact bodyPost_ret (v := .bool true) (by simp [results, Try.results5, go_sem]) rfl ⟨rfl, HK⟩
  · go_wp2_with fail
    refine (alive_does _).mono ?_
    rintro e w2 ⟨rfl, hk⟩
    have HK2 := Lib.hid hk
    clear hk
    go_wp2_with fail
    refine (of_does A1 c1 a _ (BytesAt.keep HA HK2) (by omega)).mono ?_
    rintro e w3 ⟨rfl, hk⟩
    have HK3 : Hid (Keep (fun _ => False) w w3) := Keep.trans HK2 hk (fun _ _ h => h)
    clear hk HK2
    go_wp2_with fail
    refine (of_does A2 c2 b _ (BytesAt.keep HB HK3) (by omega)).mono ?_
    rintro e w4 ⟨rfl, hk⟩
    have HK4 : Hid (Keep (fun _ => False) w w4) := Keep.trans HK3 hk (fun _ _ h => h)
    clear hk HK3
    go_wp2_with fail
    refine (join_in _ _ b.length (by omega) _).mono ?_
    rintro e w5 ⟨rfl, rfl⟩
    have HA5 : Hid (ReadsAs (w5.alloc (.cells #[] 5)) A1 (a.map bv)) := (BytesAt.keep (BytesAt.keep HA HK4) ((Keep.refl _ w5).alloc _)).1
    have HL := Lib.hid (show (a.map bv).length = a.length from List.length_map _)
    have HO := Lib.hid (bytes_oneCell a)
    go_wp2_with (at_builtin; go_must (refine wpList_append_want _ rfl _ _ _ rfl w5.heap.size 5 i0 (.int .u8 0) 1 Try.underlying22 hi hz0 hz1 hz2 rfl (some ⟨w5.heap.size, 0, none⟩) 0 0 [] rfl (Fresh.made w5 5 (Nat.le_refl _)) A1 a.length c1 (a.map bv) rfl HL.out HA5.out HN1.out HO.out (by omega) (by omega) (by simp) ?_))
    intro A' c' w6 hF hK
    have HF := Lib.hid hF
    have HK6 : Hid (Keep (fun _ => False) w w6) := Keep.onto_new (Keep.alloc HK4 _) hK (show Keep _ w w5 from HK4).size
    have HZ : Hid (w5.heap.size ≤ w6.heap.size) := Nat.le_trans (by simp) hK.size
    clear hF hK HL HO HA5
    have HL := Lib.hid (show (b.map bv).length = b.length from List.length_map _)
    have HO := Lib.hid (bytes_oneCell b)
    have HS6 : Hid (w5.heap.size ≤ w6.heap.size) := HZ
    have HB6 : Hid (ReadsAs w6 A2 (b.map bv)) := (BytesAt.keep HB HK6).1
    go_wp2_with (at_builtin; go_must (refine wpList_append_want _ rfl _ _ _ rfl w5.heap.size 5 i0 (.int .u8 0) 1 Try.underlying22 hi hz0 hz1 hz2 rfl A' a.length c' ([] ++ a.map bv) rfl HF.out A2 b.length c2 (b.map bv) rfl HL.out HB6.out HN2.out HO.out (by omega) (by omega) HS6.out ?_))
    intro A'' c'' w7 hF hK
    have HK7 : Hid (Keep (fun _ => False) w w7) := Keep.trans HK6 hK (by
      rintro i hi ⟨o, ho⟩
      have := (Fresh.block HF i o ho).1
      have := (show Keep _ w w5 from HK4).size
      omega)
    have HC : Hid (BytesAt w7 A'' (a ++ b)) := ⟨by rw [List.map_append]; exact hF.reads, fun x hx => by
      rcases List.mem_append.1 hx with h | h
      · exact (show BytesAt w A1 a from HA).2 x h
      · exact (show BytesAt w A2 b from HB).2 x h⟩
    clear hF hK HL HO HB6 HF HK6 HS6 HZ HK4
    go_wp2_with fail
    refine (of_in (w0 := w7) (b := a ++ b) (Keep.refl _ _) HC (by rw [List.length_append]; omega) (List.length_append).symm).mono ?_
    rintro e w8 ⟨rfl, hk⟩
    have HK8 : Hid (Keep (fun _ => False) w w8) := Keep.trans HK7 hk (fun _ _ h => h)
    clear hk HK7 HC
    have hE := ofB_append a b
    go_wp2_with fail
    refine (of_does A1 c1 a _ (BytesAt.keep HA HK8) (by omega)).mono ?_
    rintro e w9 ⟨rfl, hk⟩
    have HK9 : Hid (Keep (fun _ => False) w w9) := Keep.trans HK8 hk (fun _ _ h => h)
    clear hk HK8
    go_wp2_with fail
    refine (of_does none 0 [] _ (bytes_nil _) (by simp)).mono ?_
    rintro e w10 ⟨rfl, hk⟩
    have HK10 : Hid (Keep (fun _ => False) w w10) := Keep.trans HK9 hk (fun _ _ h => h)
    clear hk HK9
    go_wp2_with fail
    refine (join_in (ofB a) (ofB []) 0 (by omega) _).mono ?_
    rintro e w11 ⟨rfl, rfl⟩
    have hE2 : mx (8 * 0) (ofB a) ^^^ ofB [] = ofB a := by rw [of_nil, BitVec.xor_zero]; rfl
    rw [hE2]
    go_wp2_with fail
    refine (of_does A1 c1 a _ (BytesAt.keep HA HK10) (by omega)).mono ?_
    rintro e w12 ⟨rfl, hk⟩
    have HK12 : Hid (Keep (fun _ => False) w w12) := Keep.trans HK10 hk (fun _ _ h => h)
    clear hk HK10
    go_wp2_with fail
    exact bodyPost_ret (v := .bool true) (by simp [results, Try.results5, go_sem]) rfl ⟨rfl, HK12⟩
end Go.Proofs.Ytibjllfabalfjaa
