/- FrameLengths walked. -/
import Derived.Test.YtopdedhdfaomfaaAl
import Derived.Test.YtopdedhdfaomfaaK2
namespace Go.Proofs.Ytopdedhdfaomfaa
open Go.RowKit Go.BigFrame
theorem equal_at (A B : Option Addr) (c d n m : Nat) (a b : List Nat) (w : World) (hn : a.length = n) (hm : b.length = m) (ha : BytesAt w A a) (hb : BytesAt w B b) :
    Calls Try.prog 12 #[.slice A n c, .slice B m d] w fun e w' => e = .returned (.bool (decide (a = b))) ∧ w' = w := by
  subst hn hm
  exact equal_does A B c d a b w ha hb
theorem equal_yes (A B : Option Addr) (c d n m : Nat) (a : List Nat) (w : World) (hn : a.length = n) (hm : a.length = m) (ha : BytesAt w A a) (hb : BytesAt w B a) :
    Calls Try.prog 12 #[.slice A n c, .slice B m d] w fun e w' => e = .returned (.bool true) ∧ w' = w := by
  have := equal_at A B c d n m a a w hn hm ha hb
  rwa [decide_eq_true rfl] at this
set_option maxRecDepth 100000 in
set_option maxHeartbeats 4000000 in
theorem lengths_any (A : Option Addr) (c : Nat) (b : List Nat) (w : World) (hb : BytesAt w A b) (hc : b.length ≤ c) (hcm : c ≤ 9223372036854775807) :
    Calls Try.prog 4 #[.slice A b.length c] w fun e w' => e = .returned (.bool true) ∧ Keep (fun _ => False) w w' := by
  have HB := Lib.hid hb
  clear hb
  go_enter Try.func4, Try.ntmps4
  by_cases hla : 3000 < b.length
  · go_wp2_with fail
    refine (alive_does _).mono ?_
    rintro e w2 ⟨rfl, hk⟩
    have HK := Lib.hid hk
    clear hk
    go_wp2_with fail
    exact bodyPost_ret (v := .bool true) (by simp [results, Try.results4, go_sem]) rfl ⟨rfl, HK⟩
  go_wp2_with fail
  refine (scan_does A c b _ HB hc hcm (by omega)).mono ?_
  rintro e w2 ⟨AL, cL, rfl, hR, hk⟩
  have HK2 := Lib.hid hk
  have HR2 := Lib.hid hR
  have hge := ends_ge (scans b)
  have hle := scans_ends b
  clear hk hR
  go_wp2_with fail
  go_loopw [5, 21] (fun y i wr => ∃ k : Nat, k ≤ (scans b).length ∧ i = .int .i64 k ∧ y = .int .i64 (ends ((scans b).take k) : Nat) ∧ Keep (fun _ => False) w wr ∧ RowsAt wr AL (scans b)) (fun _ i _ => (scans b).length - (intOf i).toNat)
  case atStart => exact ⟨0, by omega, rfl, rfl, HK2, HR2⟩
  case round =>
    clear HK2 HR2
    obtain ⟨k, hk, rfl, rfl, hK, hR⟩ := hrel
    have HK := Lib.hid hK
    have HR := Lib.hid hR
    clear hK hR
    by_cases hlt : k < (scans b).length
    · obtain ⟨p, hp⟩ : ∃ p, (scans b)[k]? = some p := ⟨_, List.getElem?_eq_getElem hlt⟩
      obtain ⟨g, o, Ap, cp, rfl, hcell, hbp, hnp, hlp⟩ := HR.out k p hp
      obtain ⟨hC, hz, hpe⟩ := scans_get hp
      have hz4 := nextE_zero hz
      have hpl : p.length = many (b.drop (ends ((scans b).take k))) := by rw [hpe, payload_length hz4.2.2.1]
      have hfr := frame_of_next (fun x hx => (show BytesAt w A b from HB).2 x (List.mem_of_mem_drop hx)) hz
      rw [← hpe, ← hpl] at hfr
      have hnx : ends ((scans b).take (k + 1)) = ends ((scans b).take k) + (6 + p.length) := by
        obtain ⟨hk', rfl⟩ := List.getElem?_eq_some_iff.1 hp
        rw [List.take_succ_eq_append_getElem hk', ends_snoc]
      have h6 := hz4.2.2.1
      have h1000 := hz4.2.1
      rw [← hpl] at h6 h1000
      rw [List.length_drop] at h6
      have hfl := frameB_length p
      generalize ends ((scans b).take k) = n at *
      have HFR := Lib.hid hfr
      have HNX := Lib.hid hnx
      have HBP := Lib.hid hbp
      have HNP := Lib.hid hnp
      have HFL := Lib.hid hfl
      clear hz4 hz hpe hC hp hpl hfr hnx hbp hnp hfl
      obtain ⟨gA, oA, rfl, hgA⟩ := (show BytesAt w A b from HB).place (by omega)
      have hcn : ¬ c = n := by omega
      have hcn2 : n + (6 + p.length) ≤ c := by omega
      go_wp2_with fail
      refine (pack_at Ap cp p.length p (frameB p) _ rfl rfl HBP HNP.out h1000).mono ?_
      rintro e w3 ⟨Af, cf, rfl, hF, hk3⟩
      rw [HFL.out] at hF ⊢
      have HK3 : Hid (Keep (fun _ => False) w w3) := Keep.trans HK hk3 (fun _ _ h => h)
      have HR3 := Lib.hid (RowsAt.keep HR hk3)
      have HF3 := Lib.hid (Fresh.bytes hF (frameB_lt p (show BytesAt wr _ p from HBP).2))
      clear hF hk3 HK HR HBP
      go_wp2_with fail
      have hb3 : BytesAt w3 (some ⟨gA, oA + n, none⟩) (frameB p) := by
        rw [HFR.out]
        exact (BytesAt.drop (BytesAt.keep HB HK3) n).take _
      refine (equal_yes Af (some ⟨gA, oA + n, none⟩) cf (c - n) _ _ (frameB p) _ HFL.out (by rw [HFL.out]; omega) HF3 hb3).mono ?_
      rintro e w4 ⟨rfl, rfl⟩
      clear hb3 HF3
      go_wp2_with fail
      refine ⟨⟨k + 1, by omega, by push_cast; rfl, ?_, HK3, HR3⟩, by simp [intOf]; omega⟩
      rw [HNX.out]
      congr 1
      push_cast
      omega
    · have : k = (scans b).length := by omega
      subst this
      rw [List.take_length]
      go_wp2_with fail
      refine (alive_does _).mono ?_
      rintro e w3 ⟨rfl, hk3⟩
      have HK3 : Hid (Keep (fun _ => False) w w3) := Keep.trans HK hk3 (fun _ _ h => h)
      clear hk3 HK HR
      go_wp2_with fail
      exact bodyPost_ret (v := .bool true) (by simp [results, Try.results4, go_sem]) rfl ⟨rfl, HK3⟩
end Go.Proofs.Ytopdedhdfaomfaa
