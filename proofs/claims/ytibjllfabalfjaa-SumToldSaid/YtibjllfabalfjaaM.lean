/- SumTold walked. -/
import Derived.Test.YtibjllfabalfjaaD
import Derived.Test.YtibjllfabalfjaaJ
import Derived.Test.YtibjllfabalfjaaN
namespace Go.Proofs.Ytibjllfabalfjaa
open Go.RowKit Go.BigFrame
theorem test_bit (v : BitVec 32) (k : Nat) : (bits .and .u32 (iv v / 2 ^ k) 1 == 1) = v.getLsbD k := by
  have h1 : iv v / (2 : Int) ^ k = iv (v >>> k) := by simp [iv, Nat.shiftRight_eq_div_pow]
  rw [h1, iv_one, iv_and]
  have h2 : (v >>> k).getLsbD 0 = v.getLsbD k := by rw [BitVec.getLsbD_ushiftRight]; rfl
  have h : v >>> k &&& 1#32 = sel (v.getLsbD k) 1#32 := by
    apply BitVec.eq_of_getLsbD_eq
    intro i hi
    rw [BitVec.getLsbD_and]
    match i with
    | 0 => rw [h2]; cases v.getLsbD k <;> rfl
    | i + 1 =>
      have : (1#32).getLsbD (i + 1) = false := by simp
      rw [this]
      cases v.getLsbD k <;> simp [sel]
  rw [h]
  cases v.getLsbD k <;> rfl
/-- A row of bytes of the call's own. -/
def OwnB (base : Nat) (w : World) (A : Option Addr) (cl : List Nat) : Prop :=
  cl = [] ∨ ∃ g cur, A = some ⟨g, 0, none⟩ ∧ base ≤ g ∧ Blk w g 5 cur ∧ ∀ (j : Nat) u, (cl.map bv)[j]? = some u → cur[j]? = some u
theorem OwnB.of {base : Nat} {w : World} {A : Option Addr} {n c : Nat} {cl : List Nat} (h : Fresh w base 5 A n c (cl.map bv)) : OwnB base w A cl := by
  rcases h.2 with ⟨_, h0⟩ | ⟨g, cap, cur, hv, hg, hh, hnc, hcm, hsz, htk⟩
  · have := h.1
    subst h0
    left
    simpa using this
  · injection hv with h1 h2 h3
    subst h1
    refine .inr ⟨g, cur, rfl, hg, hh, fun j u hu => ?_⟩
    rw [← htk, List.getElem?_take] at hu
    split at hu
    · simpa using hu
    · cases hu
set_option maxRecDepth 100000 in
set_option maxHeartbeats 4000000 in
theorem told_any (p : Int) (hp : p < 9223372036854775808) (mask : BitVec 32) (A : Option Addr) (c : Nat) (b : List Nat) (w : World) (hb : BytesAt w A b) (hn : A = none → b.length = 0 ∧ c = 0) :
    Calls Try.prog 9 #[.slice A b.length c, .int .i64 p, uv mask] w fun e w' => e = .returned (.bool true) ∧ Keep (fun _ => False) w w' := by
  have HB := Lib.hid hb
  have HN := Lib.hid hn
  clear hb hn
  obtain ⟨i0, hi, hz0, hz1, hz2⟩ := info_parts info_byte
  go_enter Try.func9, Try.ntmps9
  by_cases hla : 600 < b.length
  · go_wp2_with fail
    refine (alive_does _).mono ?_
    rintro e w2 ⟨rfl, hk⟩
    have HK := Lib.hid hk
    clear hk
    go_wp2_with fail
    exact bodyPost_ret (v := .bool true) (by simp [results, Try.results9, go_sem]) rfl ⟨rfl, HK⟩
  by_cases hp0 : p < 0
  · go_wp2_with fail
    refine (alive_does _).mono ?_
    rintro e w2 ⟨rfl, hk⟩
    have HK := Lib.hid hk
    clear hk
    go_wp2_with fail
    exact bodyPost_ret (v := .bool true) (by simp [results, Try.results9, go_sem]) rfl ⟨rfl, HK⟩
  by_cases hm0 : (iv mask == 0) = true
  · go_wp2_with fail
    refine (alive_does _).mono ?_
    rintro e w2 ⟨rfl, hk⟩
    have HK := Lib.hid hk
    clear hk
    go_wp2_with fail
    exact bodyPost_ret (v := .bool true) (by simp [results, Try.results9, go_sem]) rfl ⟨rfl, HK⟩
  have hm1 : (iv mask == 0) = false := by simpa using hm0
  obtain ⟨q, hpq⟩ : ∃ q : Nat, p = q := ⟨p.toNat, by omega⟩
  have HP := Lib.hid hp
  have HPQ := Lib.hid hpq
  clear hp hm0 hpq
  have HR2 : Hid (ReadsAs (w.alloc (.cells #[] 5)) A (b.map bv)) := (BytesAt.keep HB ((Keep.refl _ w).alloc _)).1
  have HL := Lib.hid (show (b.map bv).length = b.length from List.length_map _)
  have HO := Lib.hid (bytes_oneCell b)
  go_wp2_with (at_builtin; go_must (refine wpList_append_want _ rfl _ _ _ rfl w.heap.size 5 i0 (.int .u8 0) 1 Try.underlying22 hi hz0 hz1 hz2 rfl (some ⟨w.heap.size, 0, none⟩) 0 0 [] rfl (Fresh.made w 5 (Nat.le_refl _)) A b.length c (b.map bv) rfl HL.out HR2.out HN.out HO.out (by omega) (by omega) (by simp) ?_))
  intro A' c' w2 hF hK
  have HF : Hid (OwnB w.heap.size w2 A' b) := OwnB.of (by simpa using hF)
  have HK2 : Hid (Keep (fun _ => False) w w2) := Keep.onto_new ((Keep.refl _ w).alloc _) (by simpa using hK) (Nat.le_refl _)
  clear hF hK HR2 HL HO
  go_wp2_with fail
  go_loopw [25] (fun i wr => ∃ (k : Nat) (cl : List Nat), k ≤ 32 ∧ i = .int .i64 k ∧ cl.length = b.length ∧ (∀ x ∈ cl, x < 256) ∧ OwnB w.heap.size wr A' cl ∧
      (∀ j, j < 8 * b.length → (bitsOf cl).getD j false = ((bitsOf b).getD j false ^^ (decide (q ≤ j) && decide (j < q + k) && mask.getLsbD (j - q)))) ∧
      (∀ i, i < k → mask.getLsbD i = true → q + i < 8 * b.length) ∧ Keep (fun _ => False) w wr) (fun i _ => 32 - (intOf i).toNat)
  case atStart =>
    refine ⟨0, b, by omega, rfl, rfl, (show BytesAt w A b from HB).2, HF, fun j hj => ?_, fun i hi => by omega, HK2⟩
    by_cases h : q ≤ j
    · simp [show ¬ j < q by omega]
    · simp [h]
  case round =>
    obtain ⟨k, cl, hk, rfl, hlen, hlt, hown, hbits, hin, hkeep⟩ := hrel
    have HW := Lib.hid hown
    have HBT := Lib.hid hbits
    have HIN := Lib.hid hin
    have HK := Lib.hid hkeep
    have HLT := Lib.hid hlt
    clear hown hbits hin hkeep hlt
    by_cases hk32 : k < 32
    · by_cases hbit : (bits .and .u32 (iv mask / 2 ^ k) 1 == 1) = true
      · by_cases hat : q + k < 8 * b.length
        · have hw : wrap64 (p + k) = ((q + k : Nat) : Int) := by
            have := (show p = q from HPQ)
            unfold wrap64
            omega
          have ht : ((q + k : Nat) : Int) < 8 * b.length := by omega
          have ht8 : (q + k) / 8 < b.length := by omega
          generalize hqk : q + k = t at *
          have hbt := test_bit mask k
          rw [hbit] at hbt
          rcases (show OwnB w.heap.size wr A' cl from HW) with h0 | ⟨g, cur, rfl, hg, hB, hcur⟩
          · subst h0; simp at hlen; omega
          have hcell : wr.cell? ⟨g, t / 8, none⟩ = some (bv (cl.getD (t / 8) 0)) := by
            rw [hB.cell]
            apply hcur
            rw [List.getElem?_map, List.getElem?_eq_getElem (by omega), List.getD_eq_getElem?_getD, List.getElem?_eq_getElem (by omega)]
            rfl
          have hfr : wr.frozen? ⟨g, t / 8, none⟩ = false := hB.frozen _
          have hx : cl.getD (t / 8) 0 < 256 := by
            rw [List.getD_eq_getElem?_getD, List.getElem?_eq_getElem (by omega)]
            exact HLT _ (List.getElem_mem _)
          have HBL := Lib.hid hB
          have HCU := Lib.hid hcur
          generalize hxx : cl.getD (t / 8) 0 = x at hcell hx
          clear hB hcur hbt
          have HXX := Lib.hid hxx
          clear hxx
          go_wp2_with fail
          refine region_tail 9 (by kernel_rfl) (by kernel_rfl) ?_
          simp only [List.take, List.drop]
          repeat (go_big_quiet_step (fail))
          refine wpQuiet_nil ?_
          go_wp2_with fail
          have hv : Value.int .u8 (bits .xor .u8 (x : Int) (2 ^ (t % 8) % 256)) = bv (x ^^^ 2 ^ (t % 8)) := by
            have hp8 : 2 ^ (t % 8) < 256 := Nat.pow_lt_pow_right (n := 8) (by omega) (Nat.mod_lt _ (by omega))
            have e : ((2 : Int) ^ (t % 8) % 256) = ((2 ^ (t % 8) : Nat) : Int) := by
              rw [show ((2 : Int) ^ (t % 8)) = ((2 ^ (t % 8) : Nat) : Int) by push_cast; rfl]
              generalize 2 ^ (t % 8) = z at hp8
              omega
            rw [e, u8_xor_nat _ _ hx hp8]
          rw [hv]
          have hxx : cl.getD (t / 8) 0 = x := HXX
          have hturn : turn cl t = cl.set (t / 8) (x ^^^ 2 ^ (t % 8)) := by unfold turn; rw [hxx]
          refine ⟨⟨k + 1, turn cl t, by omega, by push_cast; rfl, by rw [turn_length, hlen], turn_lt cl t HLT, ?_, ?_, ?_, ?_⟩, by simp [intOf]; omega⟩
          · refine .inr ⟨g, _, rfl, hg, (Blk.set_ HBL (t / 8) (bv (x ^^^ 2 ^ (t % 8)))).drew, ?_⟩
            intro j u hu
            rw [hturn, List.getElem?_map] at hu
            by_cases hj : j = t / 8
            · subst hj
              rw [List.getElem?_set_self (by omega)] at hu
              have hc := (show wr.cell? _ = _ from hcell)
              rw [Blk.cell HBL] at hc
              rw [Array.getElem?_setIfInBounds_self_of_lt (Array.getElem?_eq_some_iff.1 hc).1]
              exact hu
            · rw [List.getElem?_set_ne (by omega)] at hu
              rw [Array.getElem?_setIfInBounds_ne (by omega)]
              exact HCU j u (by rw [List.getElem?_map]; exact hu)
          · intro j hj
            rw [turn_get cl t j (by omega), HBT j hj]
            have hmk : mask.getLsbD k = true := by rw [← test_bit]; exact hbit
            by_cases hjt : j = t
            · subst hjt
              have e1 : j - q = k := by omega
              simp [e1, hmk, show q ≤ j by omega, show j < q + (k + 1) by omega]
            · have e : decide (j < q + (k + 1)) = decide (j < q + k) := by
                rw [decide_eq_decide]; omega
              rw [e]
              rw [hqk]
              simp [hjt]
          · intro i hi' hm'
            by_cases hik : i = k
            · omega
            · exact HIN i (by omega) hm'
          · have hk' : Keep (fun _ => False) w wr := HK
            exact (hk'.setCell (p := ⟨g, t / 8, none⟩) (fun h => absurd h (by show ¬ g < w.heap.size; omega)) _).drew
        · have hor : 8 * (b.length : Int) ≤ wrap64 (p + k) ∨ wrap64 (p + k) < 0 := by
            have := (show p = q from HPQ)
            have := (show p < 9223372036854775808 from HP)
            unfold wrap64
            omega
          by_cases h8 : 8 * (b.length : Int) ≤ wrap64 (p + k)
          · clear hor
            go_wp2_with fail
            refine (alive_does _).mono ?_
            rintro e w3 ⟨rfl, hk3⟩
            have HK3 : Hid (Keep (fun _ => False) w w3) := Keep.trans HK hk3 (fun _ _ h => h)
            clear hk3
            go_wp2_with fail
            exact bodyPost_ret (v := .bool true) (by simp [results, Try.results9, go_sem]) rfl ⟨rfl, HK3⟩
          · have h9 : wrap64 (p + k) < 0 := by omega
            clear hor
            go_wp2_with fail
            refine (alive_does _).mono ?_
            rintro e w3 ⟨rfl, hk3⟩
            have HK3 : Hid (Keep (fun _ => False) w w3) := Keep.trans HK hk3 (fun _ _ h => h)
            clear hk3
            go_wp2_with fail
            exact bodyPost_ret (v := .bool true) (by simp [results, Try.results9, go_sem]) rfl ⟨rfl, HK3⟩
      · have hbf : (bits .and .u32 (iv mask / 2 ^ k) 1 == 1) = false := by simpa using hbit
        have hbt := test_bit mask k
        rw [hbf] at hbt
        have HBF := Lib.hid hbt
        clear hbt hbit
        go_wp2_with fail
        refine ⟨⟨k + 1, cl, by omega, by push_cast; rfl, hlen, HLT, HW, ?_, ?_, HK⟩, by simp [intOf]; omega⟩
        · intro j hj
          rw [HBT j hj]
          by_cases hjk : j = q + k
          · subst hjk
            have : mask.getLsbD k = false := HBF.symm
            simp [this]
          · have e : decide (j < q + (k + 1)) = decide (j < q + k) := by
              rw [decide_eq_decide]; omega
            rw [e]
        · intro i hi hm
          by_cases hik : i = k
          · subst hik
            rw [show mask.getLsbD i = false from HBF.symm] at hm
            cases hm
          · exact HIN i (by omega) hm
    · have : k = 32 := by omega
      subst this
      have hne : ofB cl ≠ ofB b := by
        refine told b cl q mask ?_ hlen ?_ HIN
        · rintro rfl
          simp [iv] at hm1
        · intro j hj
          rw [HBT j hj]
          by_cases h : j < q + 32
          · simp [h]
          · rw [BitVec.getLsbD_of_ge mask (j - q) (by omega)]
            simp
      have hE : (iv (ofB cl) == iv (ofB b)) = false := by
        rw [beq_eq_false_iff_ne]
        intro h
        exact hne (iv_inj.1 h)
      go_wp2_with fail
      refine (alive_does _).mono ?_
      rintro e w3 ⟨rfl, hk3⟩
      have HK3 : Hid (Keep (fun _ => False) w w3) := Keep.trans HK hk3 (fun _ _ h => h)
      have HO3 : Hid (Keep (fun _ => False) wr w3) := hk3
      have hlt3 : w.heap.size ≤ w3.heap.size := (show Keep _ w w3 from HK3).size
      have HC3 : Hid (BytesAt w3 A' cl) := by
        refine BytesAt.keep ⟨?_, HLT⟩ hk3
        rcases (show OwnB w.heap.size wr A' cl from HW) with h0 | ⟨g, cur, rfl, hg, hB, hcur⟩
        · subst h0; intro i u hu; simp at hu
        · intro i u hu
          exact ⟨g, 0, rfl, by rw [Nat.zero_add, hB.cell]; exact hcur i u hu⟩
      clear hk3 HO3
      go_wp2_with fail
      refine (of_in (w0 := w3) (b := cl) (Keep.refl _ _) HC3 (by omega) hlen.symm).mono ?_
      rintro e w4 ⟨rfl, hk4⟩
      have HK4 : Hid (Keep (fun _ => False) w w4) := Keep.trans HK3 hk4 (fun _ _ h => h)
      clear hk4
      go_wp2_with fail
      refine (of_in (w0 := w) (b := b) HK4 HB (by omega) rfl).mono ?_
      rintro e w5 ⟨rfl, hk5⟩
      have HK5 : Hid (Keep (fun _ => False) w w5) := hk5
      clear hk5
      go_wp2_with fail
      exact bodyPost_ret (v := .bool true) (by simp [results, Try.results9, go_sem]; exact fun h => hne (iv_inj.1 h)) rfl ⟨rfl, HK5⟩
end Go.Proofs.Ytibjllfabalfjaa
