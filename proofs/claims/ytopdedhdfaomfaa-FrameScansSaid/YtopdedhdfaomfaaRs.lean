/- The reference's Scan walked. -/
import Derived.Test.YtopdedhdfaomfaaRn
namespace Go.Proofs.Ytopdedhdfaomfaa
open Go.RowKit Go.BigFrame
def Views (A : Option Addr) (b : List Nat) (xs : List Fr) : Prop := ∀ x ∈ xs, (∀ W, BytesAt W A b → BytesAt W x.A x.p) ∧ x.A ≠ none ∧ x.p.length ≤ 1000
set_option maxRecDepth 100000 in
set_option maxHeartbeats 4000000 in
theorem refScan_does (A : Option Addr) (n c : Nat) (b : List Nat) (w : World) (hbn : b.length = n) (hb : BytesAt w A b) (hc : n ≤ c) (hcm : c ≤ 9223372036854775807) (hl : n ≤ 100000) :
    Calls Try.prog 16 #[.slice A n c] w (ScanPost w b) := by
  obtain ⟨i0, hi, hz0, hz1, hz2⟩ := info_parts info_slice
  have HI := Lib.hid hi
  clear hi
  have HB := Lib.hid hb
  have HBN := Lib.hid hbn
  clear hb hbn
  go_enter Try.func16, Try.ntmps16
  go_wp2_with fail
  go_loopw [4, 5] (fun y i wr => ∃ (xs : List Fr) (A4 : Option Addr) (c4 : Nat), i = .int .i64 (ends (xs.map (·.p)) : Nat) ∧ Came b (xs.map (·.p)) ∧ y = .slice A4 xs.length c4 ∧ Fresh wr w.heap.size 23 A4 xs.length c4 (xs.map rowV) ∧ Views A b xs ∧ Keep (fun _ => False) w wr) (fun _ i _ => n - (intOf i).toNat)
  case atStart => exact ⟨[], none, 0, rfl, came_nil b, rfl, World.ownsRow_nil _ _ _ _, (fun x hx => by cases hx), Keep.refl _ w⟩
  case round =>
    obtain ⟨xs, A4, c4, rfl, hC, rfl, hF, hV, hkeep⟩ := hrel
    have hat := hC.2
    have hge := ends_ge (xs.map (·.p))
    rw [List.length_map] at hge
    rw [HBN.out] at hat
    have HC := Lib.hid hC
    have HF := Lib.hid hF
    have HV := Lib.hid hV
    have HK := Lib.hid hkeep
    clear hC hF hV hkeep
    generalize hat2 : ends (xs.map (·.p)) = at_ at *
    have HAT := Lib.hid hat2
    clear hat2
    have hbA : ∀ W, BytesAt W A b → BytesAt W (if c = at_ then A else A.map (fun x => x.add at_)) (b.drop at_) := fun W h => by
      split
      · next h2 => exact cut_end (by rw [HBN.out]; omega)
      · next h2 => exact cut_at h
    have hdl : (b.drop at_).length = n - at_ := by rw [List.length_drop, HBN.out]
    have HDL := Lib.hid hdl
    clear hdl
    by_cases hca : c = at_
    all_goals
      first | (simp only [if_pos hca] at hbA) | (simp only [if_neg hca] at hbA)
      have HBA := Lib.hid hbA
      clear hbA
      go_wp2_with fail
      refine (refNext_does _ (n - at_) _ (b.drop at_) _ HDL.out (HBA.out _ (BytesAt.keep HB HK)) (by omega) (by omega) (by omega)).mono ?_
      rintro e w2 ⟨hpost, hk⟩
      have HK2 : Hid (Keep (fun _ => False) w w2) := Keep.trans HK hk (fun _ _ h => h)
      have HF2 : Hid (Fresh w2 w.heap.size 23 A4 xs.length c4 (xs.map rowV)) := Fresh.keep HF hk (fun _ _ _ h => h)
      clear hk HF HK
      rcases hpost with ⟨hne, rfl⟩ | ⟨hz, g, o, c2, rfl, hview⟩
      · have HD := Lib.hid (Came.done HC.out (by rw [HAT.out]; exact hne))
        generalize nextE (b.drop at_) = E at *
        have h2 : ((E : Int) != 0) = true := by rw [bne_iff_ne]; omega
        go_wp2_with fail
        refine bodyPost_ret (v := .tuple #[.slice A4 xs.length c4, .int .i64 (at_ : Nat)]) (by simp [results, Try.results16, go_sem]) rfl ⟨A4, c4, ?_, ?_, HK2⟩
        · rw [HD.out, List.length_map, HAT.out]
        · rw [HD.out]
          intro i q hq
          rw [List.getElem?_map] at hq
          cases hxi : xs[i]? with
          | none => rw [hxi] at hq; cases hq
          | some x =>
            rw [hxi] at hq
            simp at hq
            subst hq
            obtain ⟨g, o, hA', hcell⟩ := (Fresh.reads HF2) i (rowV x) (by rw [List.getElem?_map, hxi]; rfl)
            obtain ⟨v1, v2, v3⟩ := HV.out x (List.mem_of_getElem? hxi)
            exact ⟨g, o, x.A, x.c, hA', hcell, v1 _ (BytesAt.keep HB HK2), (fun h => absurd h v2), by omega⟩
      · try
          exfalso
          have h9 := (nextE_zero hz).1
          rw [HDL.out] at h9
          omega
        all_goals
          have hnx := Came.next HC.out (by rw [HAT.out]; exact hz)
          rw [HAT.out] at hnx
          have hmany := nextE_zero hz
          have hpl := payload_length hmany.2.2.1
          have hm1000 := hmany.2.1
          rw [HDL.out] at hmany
          have hm2 := hmany.2.2.1
          have hV2 : Views A b (xs ++ [⟨at_, some ⟨g, o, none⟩, c2, payload (b.drop at_)⟩]) := by
            intro x hx
            rcases List.mem_append.1 hx with h | h
            · exact HV.out x h
            · simp at h
              subst h
              exact ⟨fun W h => hview W (HBA.out W h), (fun h => by cases h), by rw [hpl]; omega⟩
          have HNX := Lib.hid hnx
          have HV2 := Lib.hid hV2
          have HPL := Lib.hid hpl
          clear hnx hmany hpl hV2 hview hz
          generalize payload (b.drop at_) = p at *
          generalize many (b.drop at_) = m at *
          have HF3 : Hid (Fresh (w2.alloc (.cells #[.slice (some ⟨g, o, none⟩) p.length c2] 23)) w.heap.size 23 A4 xs.length c4 (xs.map rowV)) := Fresh.alloc HF2 _
          have HK3 : Hid (Keep (fun _ => False) w (w2.alloc (.cells #[.slice (some ⟨g, o, none⟩) p.length c2] 23))) := Keep.alloc HK2 _
          have HS3 := Lib.hid (Keep.size HK3)
          have HO3 : Hid (∀ u ∈ xs.map rowV, u.oneCell' = true) := by
            intro u hu
            obtain ⟨x, _, rfl⟩ := List.mem_map.1 hu
            rfl
          go_wp2_with (at_builtin; go_must (refine wpList_append_onto1 _ rfl _ _ _ rfl w.heap.size 23 i0 (.slice none 0 0) 24 Try.underlying22 HI.out hz0 hz1 hz2 rfl A4 xs.length c4 (xs.map rowV) rfl HF3.out (some ⟨w2.heap.size, 0, none⟩) 1 1 [.slice (some ⟨g, o, none⟩) p.length c2] rfl rfl reads_one (fun h => nomatch h) (fun u hu => by simp at hu; subst hu; rfl) (by omega) (by omega) HS3.out ?_))
          intro A5 c5 w5 hF5 hK5
          have HK5 := Lib.hid (keep_new HK3 HF3 hK5)
          have HF5 : Hid (Fresh w5 w.heap.size 23 A5 (xs.length + 1) c5 ((xs ++ [(⟨at_, some ⟨g, o, none⟩, c2, p⟩ : Fr)]).map rowV)) := by
            rw [List.map_append]
            exact hF5
          clear hF5 hK5 HF3 HK3 HS3 HF2 HK2
          go_wp2_with fail
          refine ⟨⟨xs ++ [(⟨at_, some ⟨g, o, none⟩, c2, p⟩ : Fr)], A5, c5, ?_, ?_, ?_, ?_, HV2, HK5⟩, by simp [intOf]; omega⟩
          · rw [List.map_append]
            show _ = Value.int .i64 ((ends (xs.map (·.p) ++ [p]) : Nat) : Int)
            rw [HNX.out.2]
            push_cast
            rfl
          · rw [List.map_append]
            exact HNX.out.1
          · rw [List.length_append]; rfl
          · rw [List.length_append]; exact HF5
end Go.Proofs.Ytopdedhdfaomfaa
