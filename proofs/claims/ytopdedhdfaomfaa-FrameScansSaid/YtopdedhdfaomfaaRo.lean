/- The reference's Of walked. -/
import Derived.Test.YtopdedhdfaomfaaA
import Derived.Test.YtopdedhdfaomfaaFl
namespace Go.Proofs.Ytopdedhdfaomfaa
open Go.RowKit Go.BigFrame
theorem flips_tail (n : Nat) (L D : List Bool) (hD : D = divs n L) (hL : L.length = n + 32) : win ((flips n 32 D).drop n) = ~~~(restW L n) := by
  subst hD
  apply BitVec.eq_of_getLsbD_eq
  intro k hk
  rw [win_bit _ _ hk, List.getD_eq_getElem?_getD, List.getElem?_drop, ← List.getD_eq_getElem?_getD, flips_get _ _ _ (by rw [divs_length]; omega), divs_win n L (by omega) k hk, BitVec.getLsbD_not]
  have h1 : (decide (n ≤ n + k) && decide (n + k < n + 32)) = true := by simp; omega
  have h2 : decide (k < 32) = true := decide_eq_true hk
  rw [h1, h2]
  simp
set_option maxRecDepth 100000 in
set_option maxHeartbeats 4000000 in
theorem refOf_does (A0 : Option Addr) (c0 : Nat) (b : List Nat) (w : World) (hb : BytesAt w A0 b) (hl : b.length ≤ 1200) : Calls Try.prog 22 #[.slice A0 b.length c0] w fun e w' => e = .returned (uv (ofB b)) ∧ Keep (fun _ => False) w w' := by
  obtain ⟨i0, hi, hz0, hz1, hz2⟩ := info_parts info_bool
  have HB := Lib.hid hb
  clear hb
  have hlb := bitsOf_length b
  have href := Lib.hid (ref_of b)
  go_enter Try.func22, Try.ntmps22
  go_wp2_with fail
  refine (bits_does A0 c0 b _ HB hl).mono ?_
  rintro e w2 ⟨A, c, rfl, hF, hK⟩
  generalize hbs : bitsOf b = bs at *
  rw [hlb] at hF ⊢
  have HK := Lib.hid hK
  have HF := Lib.hid hF
  have HS : Hid (w.heap.size ≤ w2.heap.size) := hK.size
  clear hK hF hbs
  go_wp2_with (at_builtin; go_must (refine wpList_append_make _ rfl _ _ _ _ rfl w.heap.size 4 i0 (.bool false) Try.underlying55 Try.underlying3 hi hz0 hz1 hz2 rfl rfl A (8 * b.length) c (bs.map Value.bool) rfl HF.out 32 rfl (by omega) HS.out ?_))
  intro A' c' w3 hF hK
  replace hF : Fresh w3 w.heap.size 4 A' (8 * b.length + 32) c' ((bs ++ List.replicate 32 false).map Value.bool) := by
    rw [List.map_append, List.map_replicate]
    exact hF
  have hlen : (bs ++ List.replicate 32 false).length = 8 * b.length + 32 := by simp [hlb]
  have HK3 : Hid (Keep (fun _ => False) w w3) := Keep.trans HK hK (by
    rintro i hi ⟨o, ho⟩
    have := ((show Fresh _ _ _ _ _ _ _ from HF).block i o ho).1
    omega)
  obtain ⟨g, rfl⟩ : ∃ g, A' = some ⟨g, 0, none⟩ := by
    rcases hF.2 with ⟨_, h0⟩ | ⟨g, cap, cur, hv, _⟩
    · omega
    · injection hv with hv _ _
      exact ⟨g, hv⟩
  have hg : w.heap.size ≤ g := (hF.block g 0 rfl).1
  have HBA : Hid (BitsAt w3 g (bs ++ List.replicate 32 false)) := BitsAt.of hF
  generalize bs ++ List.replicate 32 false = L0 at *
  clear hF hK HK HF HS
  go_wp2_with fail
  go_loopw [4] (fun x wr => ∃ (k : Nat), k ≤ 32 ∧ x = .int .i64 k ∧ BitsAt wr g (flips 0 k L0) ∧ Keep (fun _ => False) w wr) (fun x _ => 32 - (intOf x).toNat)
  case atStart => exact ⟨0, by omega, rfl, HBA, HK3⟩
  case round =>
    clear HBA HK3
    obtain ⟨k, hk, rfl, hBA, hK⟩ := hrel
    have HBA := Lib.hid hBA
    have HK := Lib.hid hK
    by_cases hlt : k < 32
    · have hnx : flips 0 (k + 1) L0 = (flips 0 k L0).set k (!(flips 0 k L0).getD k false) := by
        show (flips 0 k L0).set (0 + k) (!(flips 0 k L0).getD (0 + k) false) = _
        rw [Nat.zero_add]
      have hkl : k < (flips 0 k L0).length := by rw [flips_length]; omega
      have hc := hBA.cell hkl
      have hf := hBA.frozen k
      have HNX := Lib.hid hnx
      have HKL := Lib.hid hkl
      clear hBA hK hnx hkl
      generalize (flips 0 k L0).getD k false = bt at *
      go_wp2_with fail
      refine ⟨⟨k + 1, by omega, by push_cast; rfl, ?_, ?_⟩, by simp [intOf]; omega⟩
      · rw [show flips 0 (k + 1) L0 = _ from HNX]
        exact BitsAt.set HBA HKL _
      · exact Keep.setCell HK (fun h => absurd h (by simp; omega)) _
    · have : k = 32 := by omega
      subst this
      have hr := rest_does (flips 0 32 L0) (some ⟨g, 0, none⟩) c' wr (by
        have := reads_tail (n := 0) hBA (by omega)
        simpa using this) (by rw [flips_length]; omega) (by rw [flips_length]; omega)
      rw [flips_length, hlen] at hr
      clear hBA hK
      go_wp2_with fail
      refine hr.mono ?_
      clear hr
      rintro e w4 ⟨g2, c4, rfl, hg2, hB2, hK4⟩
      rw [flips_length, hlen, show 8 * b.length + 32 - 32 = 8 * b.length by omega] at hB2 ⊢
      have HK4 : Hid (Keep (fun _ => False) w w4) := Keep.trans HK hK4 (fun _ _ h => h)
      have hgw : w.heap.size ≤ g2 := Nat.le_trans (show Keep _ w wr from HK).size hg2
      have htl := Lib.hid (flips_tail (8 * b.length) (flips 0 32 L0) _ rfl (by rw [flips_length]; exact hlen))
      have hdl : (divs (8 * b.length) (flips 0 32 L0)).length = 8 * b.length + 32 := by rw [divs_length, flips_length]; exact hlen
      generalize divs (8 * b.length) (flips 0 32 L0) = D at *
      have HB2 := Lib.hid hB2
      clear hB2 hK4 HK HBA hg2
      go_wp2_with fail
      go_loopw [5] (fun x wr => ∃ (k : Nat), k ≤ 32 ∧ x = .int .i64 k ∧ BitsAt wr g2 (flips (8 * b.length) k D) ∧ Keep (fun _ => False) w wr) (fun x _ => 32 - (intOf x).toNat)
      case atStart => exact ⟨0, by omega, rfl, HB2, HK4⟩
      case round =>
        clear HB2 HK4
        obtain ⟨k, hk, rfl, hBA, hK⟩ := hrel
        have HBA := Lib.hid hBA
        have HK := Lib.hid hK
        by_cases hlt : k < 32
        · have hkl : 8 * b.length + k < (flips (8 * b.length) k D).length := by rw [flips_length]; omega
          have hc := hBA.cell hkl
          have hf := hBA.frozen (8 * b.length + k)
          have HNX : Hid (flips (8 * b.length) (k + 1) D = (flips (8 * b.length) k D).set (8 * b.length + k) (!(flips (8 * b.length) k D).getD (8 * b.length + k) false)) := rfl
          have HKL := Lib.hid hkl
          clear hBA hK hkl
          generalize (flips (8 * b.length) k D).getD (8 * b.length + k) false = bt at *
          go_wp2_with fail
          refine ⟨⟨k + 1, by omega, by push_cast; rfl, ?_, ?_⟩, by simp [intOf]; omega⟩
          · rw [show flips (8 * b.length) (k + 1) D = _ from HNX]
            exact BitsAt.set HBA HKL _
          · exact Keep.setCell HK (fun h => absurd h (by simp; omega)) _
        · have : k = 32 := by omega
          subst this
          have hrd := Lib.hid (reads_tail (n := 8 * b.length) hBA (by rw [flips_length]; omega))
          have hl32 : ((flips (8 * b.length) 32 D).drop (8 * b.length)).length = 32 := by rw [List.length_drop, flips_length]; omega
          clear hBA hK
          go_wp2_with fail
          refine (number_does _ hl32 _ c4 _ hrd).mono ?_
          rintro e w5 ⟨rfl, rfl⟩
          rw [show win ((flips (8 * b.length) 32 D).drop (8 * b.length)) = _ from htl, show ~~~(restW (flips 0 32 L0) (8 * b.length)) = _ from href]
          go_wp2_with fail
          exact bodyPost_ret (v := uv (ofB b)) (by simp [results, Try.results22, go_sem]) rfl ⟨rfl, HK⟩
end Go.Proofs.Ytopdedhdfaomfaa
