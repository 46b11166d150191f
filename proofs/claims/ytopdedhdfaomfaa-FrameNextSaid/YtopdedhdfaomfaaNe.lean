/- FrameNext walked. -/
import Derived.Test.YtopdedhdfaomfaaRs
namespace Go.Proofs.Ytopdedhdfaomfaa
open Go.RowKit Go.BigFrame
set_option maxRecDepth 100000 in
set_option maxHeartbeats 4000000 in
theorem next_any (A : Option Addr) (c : Nat) (b : List Nat) (w : World) (hb : BytesAt w A b) (hn : A = none → b.length = 0 ∧ c = 0) (hc : b.length ≤ c) (hcm : c ≤ 9223372036854775807) :
    Calls Try.prog 7 #[.slice A b.length c] w fun e w' => e = .returned (.bool true) ∧ Keep (fun _ => False) w w' := by
  obtain ⟨i0, hi, hz0, hz1, hz2⟩ := info_parts info_byte
  have HB := Lib.hid hb
  have HN := Lib.hid hn
  clear hb hn
  go_enter Try.func7, Try.ntmps7
  by_cases hla : 3000 < b.length
  · go_wp2_with fail
    refine (alive_does _).mono ?_
    rintro e w2 ⟨rfl, hk⟩
    have HK := Lib.hid hk
    clear hk
    go_wp2_with fail
    exact bodyPost_ret (v := .bool true) (by simp [results, Try.results7, go_sem]) rfl ⟨rfl, HK⟩
  have HL := Lib.hid (show (b.map bv).length = b.length from List.length_map _)
  have HO := Lib.hid (bytes_oneCell b)
  have HK1 : Hid (Keep (fun _ => False) w (w.alloc (.cells #[] 5))) := (Keep.refl _ w).alloc _
  have HR1 := Lib.hid (BytesAt.keep HB HK1).1
  go_wp2_with (at_builtin; go_must (refine wpList_append_onto1 _ rfl _ _ _ rfl w.heap.size 5 i0 (.int .u8 0) 1 Try.underlying23 hi hz0 hz1 hz2 rfl (some ⟨w.heap.size, 0, none⟩) 0 0 [] rfl (Fresh.made w 5 (Nat.le_refl _)) A b.length c (b.map bv) rfl HL.out HR1.out HN.out HO.out (by omega) (by omega) (by simp) ?_))
  intro AW cW w2 hF2 hK2
  have HK2 : Hid (Keep (fun _ => False) w w2) := Keep.trans HK1 hK2 (fun i hi (h : w.heap.size = i) => by omega)
  have HW2 : Hid (BytesAt w2 AW b) := ⟨by have := Fresh.reads hF2; simpa using this, (show BytesAt w A b from HB).2⟩
  clear hF2 hK2 HK1 HR1
  go_wp2_with fail
  refine (next_at A c b.length b _ rfl (BytesAt.keep HB HK2) hc hcm (by omega)).mono ?_
  rintro e w3 ⟨hP, hk3⟩
  have HK3 : Hid (Keep (fun _ => False) w w3) := Keep.trans HK2 hk3 (fun _ _ h => h)
  have HW3 := Lib.hid (BytesAt.keep HW2 hk3)
  clear hk3 HK2 HW2
  rcases hP with ⟨hne, rfl⟩ | ⟨hz, A3, c3, rfl, hF3⟩
  · go_wp2_with fail
    refine (refNext_does A b.length c b _ rfl (BytesAt.keep HB HK3) hc hcm (by omega)).mono ?_
    rintro e w4 ⟨⟨_, rfl⟩ | ⟨hz, _⟩, hk4⟩
    · have HK4 : Hid (Keep (fun _ => False) w w4) := Keep.trans HK3 hk4 (fun _ _ h => h)
      have HW4 := Lib.hid (BytesAt.keep HW3 hk4)
      clear hk4 HK3 HW3 hne
      generalize nextE b = E at *
      go_wp2_with fail
      refine (alive_does _).mono ?_
      rintro e w5 ⟨rfl, hk5⟩
      have HK5 : Hid (Keep (fun _ => False) w w5) := Keep.trans HK4 hk5 (fun _ _ h => h)
      have HW5 := Lib.hid (BytesAt.keep HW4 hk5)
      clear hk5 HK4 HW4
      go_wp2_with fail
      refine (equal_yes none none 0 0 0 0 [] _ rfl rfl (bytes_nil _) (bytes_nil _)).mono ?_
      rintro e w6 ⟨rfl, rfl⟩
      go_wp2_with fail
      refine (equal_yes A AW c cW _ _ b _ rfl rfl (BytesAt.keep HB HK5) HW5).mono ?_
      rintro e w7 ⟨rfl, rfl⟩
      go_wp2_with fail
      exact bodyPost_ret (v := .bool true) (by simp [results, Try.results7, go_sem]) rfl ⟨rfl, HK5⟩
    · exact absurd hz hne
  · have HP3 := Lib.hid (Fresh.bytes hF3 (fun y hy => (show BytesAt w A b from HB).2 y (List.mem_of_mem_drop (List.mem_of_mem_take hy))))
    clear hF3
    go_wp2_with fail
    refine (refNext_does A b.length c b _ rfl (BytesAt.keep HB HK3) hc hcm (by omega)).mono ?_
    rintro e w4 ⟨⟨hne, _⟩ | ⟨_, g, o, c4, rfl, hview⟩, hk4⟩
    · exact absurd hz hne
    · have HK4 : Hid (Keep (fun _ => False) w w4) := Keep.trans HK3 hk4 (fun _ _ h => h)
      have HW4 := Lib.hid (BytesAt.keep HW3 hk4)
      have HP4 := Lib.hid (BytesAt.keep HP3 hk4)
      have HV := Lib.hid hview
      clear hk4 HK3 HW3 HP3 hz hview
      generalize payload b = q at *
      generalize many b = m at *
      go_wp2_with fail
      refine (alive_does _).mono ?_
      rintro e w5 ⟨rfl, hk5⟩
      have HK5 : Hid (Keep (fun _ => False) w w5) := Keep.trans HK4 hk5 (fun _ _ h => h)
      have HW5 := Lib.hid (BytesAt.keep HW4 hk5)
      have HP5 := Lib.hid (BytesAt.keep HP4 hk5)
      clear hk5 HK4 HW4 HP4
      go_wp2_with fail
      refine (equal_yes A3 (some ⟨g, o, none⟩) c3 c4 _ _ q _ rfl rfl HP5 (HV.out _ (BytesAt.keep HB HK5))).mono ?_
      rintro e w6 ⟨rfl, rfl⟩
      go_wp2_with fail
      refine (equal_yes A AW c cW _ _ b _ rfl rfl (BytesAt.keep HB HK5) HW5).mono ?_
      rintro e w7 ⟨rfl, rfl⟩
      go_wp2_with fail
      exact bodyPost_ret (v := .bool true) (by simp [results, Try.results7, go_sem]) rfl ⟨rfl, HK5⟩
end Go.Proofs.Ytopdedhdfaomfaa
