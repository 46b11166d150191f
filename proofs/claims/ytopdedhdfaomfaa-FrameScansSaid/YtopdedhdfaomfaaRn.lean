/- The reference's Next walked. -/
import Derived.Test.YtopdedhdfaomfaaRp
namespace Go.Proofs.Ytopdedhdfaomfaa
open Go.RowKit Go.BigFrame
def RefNextPost (A : Option Addr) (w : World) (b : List Nat) (e : Ending) (w' : World) : Prop :=
  ((nextE b ≠ 0 ∧ e = .returned (.tuple #[.slice none 0 0, .int .i64 0, .int .i64 (nextE b)])) ∨
   (nextE b = 0 ∧ ∃ g o c, e = .returned (.tuple #[.slice (some ⟨g, o, none⟩) (payload b).length c, .int .i64 (6 + many b : Nat), .int .i64 0]) ∧ ∀ W, BytesAt W A b → BytesAt W (some ⟨g, o, none⟩) (payload b))) ∧ Keep (fun _ => False) w w'
theorem frame_sum {c : List Nat} (hlt : ∀ x ∈ c, x < 256) (h1 : ¬ c.length < 6) (h2 : ¬ 1000 < many c) (h3 : ¬ c.length < 6 + many c) : decide (frameB (payload c) = c.take (6 + many c)) = summed c := by
  cases hs : summed c
  · rw [decide_eq_false_iff_not]
    intro he
    have hpl := payload_length (b := c) (by omega)
    have hn := (next_of_frame (payload c) (c.drop (6 + many c)) (by omega)).1
    rw [he, List.take_append_drop] at hn
    have := (nextE_zero hn).2.2.2
    rw [hs] at this
    cases this
  · rw [decide_eq_true_iff]
    refine frame_of_next hlt ?_
    rw [nextE_sum h1 h2 h3, hs]
    rfl
set_option maxRecDepth 100000 in
set_option maxHeartbeats 1000000 in
theorem refNext_six (A : Option Addr) (b : List Nat) (w : World) (hbn : b.length = 6) (hb : BytesAt w A b) (hm : many b = 0) : Calls Try.prog 15 #[.slice A 6 6] w (RefNextPost A w b) := by
  obtain ⟨g, o, rfl, _⟩ := hb.place (by omega)
  have hle2 := le_two b (by omega)
  rw [hm] at hle2
  have hnum : ∀ W, BytesAt W (some ⟨g, o, none⟩) b → Calls Try.prog 25 #[.slice (some ⟨g, o, none⟩) 2 6] W fun e w' => e = .returned (.int .i64 0) ∧ w' = W := fun W h => by
    have := num_does (some ⟨g, o, none⟩) 2 6 (b.take 2) W (by rw [List.length_take]; omega) (h.take 2) (by omega)
    rwa [hle2] at this
  have hpay : payload b = [] := by
    unfold payload
    rw [hm, List.take_zero]
  have hE := nextE_sum (b := b) (by omega) (by omega) (by omega)
  have hsum := frame_sum (c := b) hb.2 (by omega) (by omega) (by omega)
  rw [hpay, hm, List.take_of_length_le (by omega)] at hsum
  have HNUM := Lib.hid hnum
  have HB := Lib.hid hb
  have HBN := Lib.hid hbn
  have HE := Lib.hid hE
  have HPAY := Lib.hid hpay
  have HSUM := Lib.hid hsum
  have HM := Lib.hid hm
  clear hnum hb hle2 hbn hE hpay hsum hm
  go_enter Try.func15, Try.ntmps15
  go_wp2_with fail
  refine (HNUM.out _ HB).mono ?_
  rintro e w1 ⟨rfl, rfl⟩
  go_wp2_with fail
  refine (HNUM.out _ HB).mono ?_
  rintro e w2 ⟨rfl, rfl⟩
  go_wp2_with fail
  refine (HNUM.out _ HB).mono ?_
  rintro e w3 ⟨rfl, rfl⟩
  go_wp2_with fail
  refine (refPack_does (some ⟨g, o, none⟩) 0 0 [] _ rfl (BytesAt.empty _ _) (fun h => by cases h) (by decide)).mono ?_
  rintro e w4 ⟨A4, c4, rfl, hF, hk⟩
  simp only [show (frameB []).length = 6 from rfl] at hF ⊢
  have HK4 := Lib.hid hk
  have HB4 := Lib.hid (BytesAt.keep HB hk)
  have hF4 : BytesAt w4 A4 (frameB []) := Fresh.bytes hF (frameB_lt _ (fun x hx => by cases hx))
  have hq1 : ∀ nq, (convert 23 9 (.slice A4 6 c4)).run Try.prog (w4.drewN nq) = .ok (.string (strB (frameB []))) (w4.drewN nq) := fun nq => convert_bytes (hF4.keep ((Keep.refl _ _).drewN nq)) c4
  have hq2 : ∀ nq, (convert 23 9 (.slice (some ⟨g, o, none⟩) 6 6)).run Try.prog (w4.drewN nq) = .ok (.string (strB b)) (w4.drewN nq) := fun nq => by
    have := convert_bytes (BytesAt.keep HB4 ((Keep.refl _ _).drewN nq)) 6
    rwa [HBN.out] at this
  have hse := strB_eq hF4.2 (show BytesAt w4 _ b from HB4).2
  rw [HSUM.out] at hse
  generalize strB (frameB []) = s1 at *
  generalize strB b = s2 at *
  have hne : (s1.toList != s2.toList) = !summed b := by rw [← hse]; rfl
  clear hF4 hF
  go_wp2_with fail
  go_quiet (fail)
  have HK5 : Hid (Keep (fun _ => False) w3 (w4.drewN nq)) := Keep.drewN HK4 nq
  clear hq1 hq2 HK4 HB4
  cases hs : summed b
  · rw [hs] at HE hne hse
    go_wp2_with fail
    go_ret3
    exact ⟨.inl ⟨by rw [HE.out]; simp, by rw [HE.out]; rfl⟩, HK5⟩
  · rw [hs] at HE hne hse
    go_wp2_with fail
    go_ret3
    refine ⟨.inr ⟨HE.out, g, o, 0, ?_, ?_⟩, HK5⟩
    · rw [HPAY.out, HM.out]
      rfl
    · intro W _
      rw [HPAY.out]
      exact BytesAt.empty _ _
set_option maxRecDepth 100000 in
set_option maxHeartbeats 4000000 in
theorem refNext_does (A : Option Addr) (n c : Nat) (b : List Nat) (w : World) (hbn : b.length = n) (hb : BytesAt w A b) (hc : n ≤ c) (hcm : c ≤ 9223372036854775807) (hl : n ≤ 100000) :
    Calls Try.prog 15 #[.slice A n c] w (RefNextPost A w b) := by
  by_cases h6 : n < 6
  · have HE := Lib.hid (nextE_few (b := b) (by omega))
    clear hb hbn
    go_enter Try.func15, Try.ntmps15
    go_wp2_with fail
    go_ret3
    exact ⟨.inl ⟨by rw [HE.out]; omega, by rw [HE.out]; rfl⟩, Keep.refl _ w⟩
  by_cases h66 : c = 6 ∧ n = 6 ∧ many b = 0
  · obtain ⟨rfl, rfl, hm⟩ := h66
    exact refNext_six A b w hbn hb hm
  obtain ⟨g, o, rfl, _⟩ := hb.place (by omega)
  have hle2 := le_two b (by omega)
  have hmb : many b < 65792 := by
    have h0 : b.getD 0 0 < 256 := by
      rw [List.getD_eq_getElem?_getD, List.getElem?_eq_getElem (by omega)]
      exact hb.2 _ (List.getElem_mem _)
    have h1 : b.getD 1 0 < 256 := by
      rw [List.getD_eq_getElem?_getD, List.getElem?_eq_getElem (by omega)]
      exact hb.2 _ (List.getElem_mem _)
    unfold many
    omega
  have hc0 : ¬ c = 0 := by omega
  have hnum : ∀ W, BytesAt W (some ⟨g, o, none⟩) b → Calls Try.prog 25 #[.slice (some ⟨g, o, none⟩) 2 c] W fun e w' => e = .returned (.int .i64 (many b : Nat)) ∧ w' = W := fun W h => by
    have := num_does (some ⟨g, o, none⟩) 2 c (b.take 2) W (by rw [List.length_take]; omega) (h.take 2) (by omega)
    rwa [hle2] at this
  have HNUM := Lib.hid hnum
  have HB := Lib.hid hb
  have HBN := Lib.hid hbn
  clear hnum hb hle2 hbn
  go_enter Try.func15, Try.ntmps15
  go_wp2_with fail
  refine (HNUM.out _ HB).mono ?_
  rintro e w1 ⟨rfl, rfl⟩
  by_cases hbig : 1000 < many b
  · have HE := Lib.hid (nextE_big hbig)
    generalize many b = m at *
    go_wp2_with fail
    go_ret3
    exact ⟨.inl ⟨by rw [HE.out]; omega, by rw [HE.out]; rfl⟩, Keep.refl _ _⟩
  go_wp2_with fail
  refine (HNUM.out _ HB).mono ?_
  rintro e w2 ⟨rfl, rfl⟩
  by_cases hhalf : n < 6 + many b
  · have HE := Lib.hid (nextE_half (b := b) (by rw [HBN.out]; exact hhalf))
    generalize many b = m at *
    go_wp2_with fail
    go_ret3
    exact ⟨.inl ⟨by rw [HE.out]; omega, by rw [HE.out]; rfl⟩, Keep.refl _ _⟩
  have HE := Lib.hid (nextE_sum (b := b) (by rw [HBN.out]; exact h6) hbig (by rw [HBN.out]; exact hhalf))
  have HPL := Lib.hid (payload_length (b := b) (by rw [HBN.out]; omega))
  have HSUM := Lib.hid (frame_sum (c := b) (show BytesAt w2 _ b from HB).2 (by rw [HBN.out]; exact h6) hbig (by rw [HBN.out]; exact hhalf))
  have hc6 : ¬ c = 6 := by
    intro h
    exact h66 ⟨h, by omega, by omega⟩
  have HP6 := Lib.hid ((BytesAt.drop HB 6).take (many b))
  go_wp2_with fail
  refine (HNUM.out _ HB).mono ?_
  rintro e w3 ⟨rfl, rfl⟩
  have hcl := refPack_does (some ⟨g, o + 6, none⟩) (many b) (c - 6) (payload b) w3 HPL.out HP6 (fun h => by cases h) (by omega)
  have HCL := Lib.hid hcl
  have HTK := Lib.hid (show (b.take (6 + many b)).length = 6 + many b by rw [List.length_take, HBN.out]; omega)
  clear hcl
  have hcm6 : ((6 : Int) + (many b : Int)) ≤ (c : Int) := by omega
  go_wp2_with fail
  refine HCL.out.mono ?_
  rintro e w4 ⟨A4, c4, rfl, hF, hk⟩
  have hfl := frameB_length (payload b)
  rw [HPL.out] at hfl
  rw [hfl] at hF ⊢
  have HK4 := Lib.hid hk
  have HB4 := Lib.hid (BytesAt.keep HB hk)
  have HP4 := Lib.hid (BytesAt.keep HP6 hk)
  have hF4 : BytesAt w4 A4 (frameB (payload b)) := Fresh.bytes hF (frameB_lt _ (show BytesAt w3 _ _ from HP6).2)
  have hq1 : ∀ nq, (convert 23 9 (.slice A4 (6 + many b) c4)).run Try.prog (w4.drewN nq) = .ok (.string (strB (frameB (payload b)))) (w4.drewN nq) := fun nq => by
    have := convert_bytes (hF4.keep ((Keep.refl _ _).drewN nq)) c4
    rwa [hfl] at this
  have hq2 : ∀ nq, (convert 23 9 (.slice (some ⟨g, o, none⟩) (6 + many b) c)).run Try.prog (w4.drewN nq) = .ok (.string (strB (b.take (6 + many b)))) (w4.drewN nq) := fun nq => by
    have := convert_bytes (BytesAt.keep (BytesAt.take HB4 (6 + many b)) ((Keep.refl _ _).drewN nq)) c
    rwa [HTK.out] at this
  have hse := strB_eq hF4.2 (BytesAt.take HB4 (6 + many b)).2
  rw [HSUM.out] at hse
  generalize strB (frameB (payload b)) = s1 at *
  generalize strB (b.take (6 + many b)) = s2 at *
  have hne : (s1.toList != s2.toList) = !summed b := by rw [← hse]; rfl
  clear hF4 hF
  go_wp2_with fail
  go_quiet (fail)
  have HK5 : Hid (Keep (fun _ => False) w3 (w4.drewN nq)) := Keep.drewN HK4 nq
  clear hq1 hq2 HK4 HP4 HB4
  cases hs : summed b
  · rw [hs] at HE hne hse
    go_wp2_with fail
    go_ret3
    exact ⟨.inl ⟨by rw [HE.out]; simp, by rw [HE.out]; rfl⟩, HK5⟩
  · rw [hs] at HE hne hse
    go_wp2_with fail
    go_ret3
    refine ⟨.inr ⟨HE.out, g, o + 6, c - 6, ?_, fun W h => (BytesAt.drop h 6).take _⟩, HK5⟩
    rw [HPL.out]
    push_cast
    rfl
end Go.Proofs.Ytopdedhdfaomfaa
