/- FramePacks walked. -/
import Derived.Test.YtopdedhdfaomfaaRs
namespace Go.Proofs.Ytopdedhdfaomfaa
open Go.RowKit Go.BigFrame
set_option maxRecDepth 100000 in
set_option maxHeartbeats 4000000 in
theorem packs_any (A : Option Addr) (c : Nat) (p : List Nat) (w : World) (hb : BytesAt w A p) (hn : A = none → p.length = 0 ∧ c = 0) :
    Calls Try.prog 6 #[.slice A p.length c] w fun e w' => e = .returned (.bool true) ∧ Keep (fun _ => False) w w' := by
  have HB := Lib.hid hb
  have HN := Lib.hid hn
  clear hb hn
  go_enter Try.func6, Try.ntmps6
  by_cases hla : 1500 < p.length
  · go_wp2_with fail
    refine (alive_does _).mono ?_
    rintro e w2 ⟨rfl, hk⟩
    have HK := Lib.hid hk
    clear hk
    go_wp2_with fail
    exact bodyPost_ret (v := .bool true) (by simp [results, Try.results6, go_sem]) rfl ⟨rfl, HK⟩
  by_cases hbig : 1000 < p.length
  · go_wp2_with fail
    refine (pack_long A p.length c _ hbig (by omega)).mono ?_
    rintro e w2 ⟨rfl, rfl⟩
    go_wp2_with fail
    refine (refPack_long A p.length c _ hbig (by omega)).mono ?_
    rintro e w3 ⟨rfl, rfl⟩
    go_wp2_with fail
    refine (equal_yes none none 0 0 0 0 [] _ rfl rfl (bytes_nil _) (bytes_nil _)).mono ?_
    rintro e w4 ⟨rfl, rfl⟩
    go_wp2_with fail
    refine (alive_does _).mono ?_
    rintro e w5 ⟨rfl, hk⟩
    have HK := Lib.hid hk
    clear hk
    go_wp2_with fail
    exact bodyPost_ret (v := .bool true) (by simp [results, Try.results6, go_sem]) rfl ⟨rfl, HK⟩
  have HFL := Lib.hid (frameB_length p)
  have HNF := Lib.hid (next_of_frame p [] (by omega))
  have HLT := Lib.hid (frameB_lt p (show BytesAt w A p from HB).2)
  go_wp2_with fail
  refine (pack_at A c p.length p (frameB p) _ rfl rfl HB HN.out (by omega)).mono ?_
  rintro e w2 ⟨A2, c2, rfl, hF2, hk2⟩
  rw [HFL.out] at hF2 ⊢
  have HK2 := Lib.hid hk2
  have HF2 := Lib.hid (Fresh.bytes hF2 HLT)
  obtain ⟨hl1, hl2⟩ := Fresh.lens hF2
  clear hF2 hk2
  go_wp2_with fail
  refine (refPack_does A p.length c p _ rfl (BytesAt.keep HB HK2) HN.out (by omega)).mono ?_
  rintro e w3 ⟨A3, c3, rfl, hF3, hk3⟩
  rw [HFL.out] at hF3 ⊢
  have HK3 : Hid (Keep (fun _ => False) w w3) := Keep.trans HK2 hk3 (fun _ _ h => h)
  have HF23 := Lib.hid (BytesAt.keep HF2 hk3)
  have HF3 := Lib.hid (Fresh.bytes hF3 HLT)
  clear hF3 hk3 HK2 HF2
  go_wp2_with fail
  refine (equal_yes A2 A3 c2 c3 _ _ (frameB p) _ HFL.out HFL.out HF23 HF3).mono ?_
  rintro e w4 ⟨rfl, rfl⟩
  go_wp2_with fail
  refine (next_at A2 c2 _ (frameB p) _ HFL.out HF23 hl1 hl2 (by omega)).mono ?_
  rw [List.append_nil] at HNF
  rintro e w5 ⟨⟨hne, _⟩ | ⟨_, A5, c5, rfl, hF5⟩, hk5⟩
  · exact absurd HNF.out.1 hne
  rw [HNF.out.2.1, HNF.out.2.2.1] at *
  have HK5 : Hid (Keep (fun _ => False) w w5) := Keep.trans HK3 hk5 (fun _ _ h => h)
  have HF5 := Lib.hid (Fresh.bytes hF5 (show BytesAt w A p from HB).2)
  clear hF5 hk5 HK3 HF23 HF3
  go_wp2_with fail
  refine (alive_does _).mono ?_
  rintro e w6 ⟨rfl, hk6⟩
  have HK6 : Hid (Keep (fun _ => False) w w6) := Keep.trans HK5 hk6 (fun _ _ h => h)
  have HF6 := Lib.hid (BytesAt.keep HF5 hk6)
  clear hk6 HK5 HF5
  go_wp2_with fail
  refine (equal_yes A A5 c c5 _ _ p _ rfl rfl (BytesAt.keep HB HK6) HF6).mono ?_
  rintro e w7 ⟨rfl, rfl⟩
  go_wp2_with fail
  exact bodyPost_ret (v := .bool true) (by simp [results, Try.results6, go_sem]) rfl ⟨rfl, HK6⟩
end Go.Proofs.Ytopdedhdfaomfaa
