/- frame.Next walked. -/
import Derived.Test.YtopdedhdfaomfaaPk
namespace Go.Proofs.Ytopdedhdfaomfaa
open Go.RowKit Go.BigFrame
def NextPost (w : World) (b : List Nat) (e : Ending) (w' : World) : Prop :=
  ((nextE b ≠ 0 ∧ e = .returned (.tuple #[.slice none 0 0, .int .i64 0, .int .i64 (nextE b)])) ∨
   (nextE b = 0 ∧ ∃ A c, e = .returned (.tuple #[.slice A (payload b).length c, .int .i64 (6 + many b : Nat), .int .i64 0]) ∧ Fresh w' w.heap.size 5 A (payload b).length c ((payload b).map bv))) ∧ Keep (fun _ => False) w w'
theorem nextE_few {b : List Nat} (h : b.length < 6) : nextE b = 110 := if_pos (Or.inl h)
theorem nextE_big {b : List Nat} (h : 1000 < many b) : nextE b = 110 := if_pos (Or.inr (Or.inl h))
theorem nextE_half {b : List Nat} (h : b.length < 6 + many b) : nextE b = 110 := if_pos (Or.inr (Or.inr h))
theorem nextE_sum {b : List Nat} (h1 : ¬ b.length < 6) (h2 : ¬ 1000 < many b) (h3 : ¬ b.length < 6 + many b) : nextE b = if summed b then 0 else 111 :=
  if_neg (fun h => by omega)
theorem ofInt_i64 (a : Nat) (ha : a < 9223372036854775808) : (BitVec.ofInt 64 (a : Int)).toNat = a := by
  rw [BitVec.ofInt_natCast, BitVec.toNat_ofNat]; exact Nat.mod_eq_of_lt (by omega)
theorem i64_or_nat (a b : Nat) (ha : a < 9223372036854775808) (hb : b < 9223372036854775808) : bits .or .i64 (a : Int) (b : Int) = ((a ||| b : Nat) : Int) := by
  have hx : a ||| b < 2 ^ 63 := Nat.or_lt_two_pow (by omega) (by omega)
  show IntKind.i64.wrap ((BitVec.ofInt 64 (a : Int) ||| BitVec.ofInt 64 (b : Int)).toNat : Int) = _
  rw [BitVec.toNat_or, ofInt_i64 a ha, ofInt_i64 b hb, IntKind.wrap_i64]
  omega
theorem or_bytes (x y : Nat) (hx : x < 256) : x ||| y * 256 = x + 256 * y := by
  have := Nat.two_pow_add_eq_or_of_lt (i := 8) hx y
  rw [show (2 : Nat) ^ 8 = 256 from rfl] at this
  rw [Nat.or_comm, Nat.mul_comm y 256, ← this]
  omega
theorem clone_at (A : Option Addr) (c n : Nat) (b : List Nat) (w : World) (hn : b.length = n) (hb : BytesAt w A b) (hz : A = none → b.length = 0 ∧ c = 0) (hl : n ≤ 100000) : Calls Try.prog 23 #[.slice A n c] w (BytesPost w b) := by
  subst hn
  exact clone_does A c b w hb hz hl
theorem read_at (A : Option Addr) (c n : Nat) (b : List Nat) (w : World) (hn : b.length = n) (hb : BytesAt w A b) (hl : 4 ≤ n) : Calls Try.prog 24 #[.slice A n c] w fun e w' => e = .returned (.tuple #[uv (BitVec.ofNat 32 (le (b.take 4))), .bool true]) ∧ w' = w := by
  subst hn
  exact read_does A c b w hb hl
theorem of_at (A : Option Addr) (c n : Nat) (b : List Nat) (w : World) (hn : b.length = n) (hb : BytesAt w A b) (hl : n ≤ 1000000) : Calls Try.prog 18 #[.slice A n c] w fun e w' => e = .returned (uv (ofB b)) ∧ Keep (fun _ => False) w w' := by
  subst hn
  exact of_does A c b w hb hl
theorem BytesAt.drop {w : World} {g o : Nat} {b : List Nat} (h : BytesAt w (some ⟨g, o, none⟩) b) (k : Nat) : BytesAt w (some ⟨g, o + k, none⟩) (b.drop k) := by
  refine ⟨?_, fun x hx => h.2 x (List.mem_of_mem_drop hx)⟩
  intro i u hu
  rw [List.map_drop, List.getElem?_drop] at hu
  obtain ⟨g', o', e, hc⟩ := h.1 _ _ hu
  cases e
  exact ⟨g, o + k, rfl, by rw [Nat.add_assoc]; exact hc⟩
theorem BytesAt.take {w : World} {A : Option Addr} {b : List Nat} (h : BytesAt w A b) (k : Nat) : BytesAt w A (b.take k) := by
  refine ⟨?_, fun x hx => h.2 x (List.mem_of_mem_take hx)⟩
  intro i u hu
  rw [List.map_take, List.getElem?_take] at hu
  split at hu
  · exact h.1 _ _ hu
  · cases hu
theorem BytesAt.empty (w : World) (A : Option Addr) : BytesAt w A [] := ⟨fun i u h => by simp at h, fun x h => by simp at h⟩
set_option maxRecDepth 100000 in
set_option maxHeartbeats 4000000 in
theorem next_does (A : Option Addr) (c : Nat) (b : List Nat) (w : World) (hb : BytesAt w A b) (hc : b.length ≤ c) (hcm : c ≤ 9223372036854775807) (hl : b.length ≤ 100000) :
    Calls Try.prog 14 #[.slice A b.length c] w (NextPost w b) := by
  by_cases h6 : b.length < 6
  · have HE := Lib.hid (nextE_few h6)
    clear hb
    go_enter Try.func14, Try.ntmps14
    go_wp2_with fail
    go_ret3
    exact ⟨.inl ⟨by rw [HE.out]; omega, by rw [HE.out]; rfl⟩, Keep.refl _ w⟩
  obtain ⟨g, o, rfl, k0, x0⟩ := hb.get (k := 0) (by omega)
  obtain ⟨g', o', e', k1, x1⟩ := hb.get (k := 1) (by omega)
  cases e'
  have hm : many b = b[0]'(by omega) + 256 * b[1]'(by omega) := by
    unfold many
    rw [List.getD_eq_getElem?_getD, List.getD_eq_getElem?_getD, List.getElem?_eq_getElem (by omega), List.getElem?_eq_getElem (by omega)]
    rfl
  generalize b[0]'(by omega) = y0 at *
  generalize b[1]'(by omega) = y1 at *
  rw [Nat.add_zero] at k0
  have hor : bits .or .i64 (y0 : Int) (y1 * 256 : Int) = ((y0 + 256 * y1 : Nat) : Int) := by
    have := i64_or_nat y0 (y1 * 256) (by omega) (by omega)
    rw [or_bytes y0 y1 x0] at this
    rw [← this]
    push_cast
    rfl
  rw [← hm] at hor
  have HM := Lib.hid hm
  have HB := Lib.hid hb
  clear hm hb
  go_enter Try.func14, Try.ntmps14
  go_wp2_with fail
  go_quiet (fail)
  have HK : Hid (Keep (fun _ => False) w (w.drewN nq)) := (Keep.refl _ w).drewN nq
  by_cases hbig : 1000 < many b
  · have HE := Lib.hid (nextE_big hbig)
    clear k0 k1 hor
    go_wp2_with fail
    go_ret3
    exact ⟨.inl ⟨by rw [HE.out]; omega, by rw [HE.out]; rfl⟩, HK⟩
  by_cases hhalf : b.length < 6 + many b
  · have HE := Lib.hid (nextE_half hhalf)
    clear k0 k1 hor
    go_wp2_with fail
    go_ret3
    exact ⟨.inl ⟨by rw [HE.out]; omega, by rw [HE.out]; rfl⟩, HK⟩
  have HE := Lib.hid (nextE_sum h6 hbig hhalf)
  have HPL := Lib.hid (payload_length (b := b) (by omega))
  have HBD : Hid (BytesAt (w.drewN nq) (some ⟨g, o, none⟩) b) := BytesAt.keep HB HK
  have hp6 : ∃ o6 c6, ((c = 6 → o = o6 ∧ 0 = c6) ∧ (¬ c = 6 → o + 6 = o6 ∧ c - 6 = c6)) ∧ BytesAt (w.drewN nq) (some ⟨g, o6, none⟩) (payload b) := by
    by_cases hc6 : c = 6
    · refine ⟨o, 0, ⟨fun _ => ⟨rfl, rfl⟩, fun h => absurd hc6 h⟩, ?_⟩
      have : payload b = [] := by
        apply List.eq_nil_of_length_eq_zero
        rw [HPL.out]
        omega
      rw [this]
      exact BytesAt.empty _ _
    · exact ⟨o + 6, c - 6, ⟨fun h => absurd h hc6, fun _ => ⟨rfl, rfl⟩⟩, (BytesAt.drop HBD 6).take _⟩
  obtain ⟨o6, c6, ho6, hp6⟩ := hp6
  have HO6 := Lib.hid ho6
  have HP6 := Lib.hid hp6
  clear k0 k1 hor hp6 ho6 HM
  have hcl : ∀ W : World, W = w.drewN nq → Calls Try.prog 23 #[.slice (some ⟨g, o6, none⟩) (many b) c6] W (BytesPost W (payload b)) := by
    rintro W rfl
    exact clone_at _ c6 (many b) (payload b) _ HPL.out HP6 (fun h => by cases h) (by omega)
  have HCL := Lib.hid hcl
  clear hcl
  generalize w.drewN nq = W at *
  by_cases hc6 : c = 6
  all_goals
    obtain ⟨rfl, rfl⟩ := (by first | exact HO6.out.1 hc6 | exact HO6.out.2 hc6)
    go_wp2_with fail
    refine (HCL.out _ rfl).mono ?_
    rintro e w2 ⟨A2, c2, rfl, hF, hk⟩
    rw [HPL.out] at hF ⊢
    have HK2 : Hid (Keep (fun _ => False) w w2) := Keep.trans HK hk (fun _ _ h => h)
    have HF2 : Hid (Fresh w2 w.heap.size 5 A2 (many b) c2 ((payload b).map bv)) := hF.base_le (Keep.size HK)
    have HB2 : Hid (BytesAt w2 (some ⟨g, o, none⟩) b) := BytesAt.keep HBD hk
    clear hF hk HP6 HCL HBD HK HO6
    go_wp2_with fail
    refine (read_at (some ⟨g, o + 2, none⟩) _ _ (b.drop 2) _ (by rw [List.length_drop]) (BytesAt.drop HB2 2) (by omega)).mono ?_
    rintro e w3 ⟨rfl, rfl⟩
    go_wp2_with fail
    refine (of_at (some ⟨g, o, none⟩) _ 2 (b.take 2) _ (by rw [List.length_take]; omega) (BytesAt.take HB2 2) (by omega)).mono ?_
    rintro e w4 ⟨rfl, hk⟩
    have HK4 : Hid (Keep (fun _ => False) w w4) := Keep.trans HK2 hk (fun _ _ h => h)
    have HF4 : Hid (Fresh w4 w.heap.size 5 A2 (many b) c2 ((payload b).map bv)) := Fresh.keep HF2 hk (fun _ _ _ h => h)
    have HB4 : Hid (BytesAt w4 A2 (payload b)) := ⟨Fresh.reads HF4, fun x hx => (show BytesAt w3 _ b from HB2).2 x (List.mem_of_mem_drop (List.mem_of_mem_take hx))⟩
    clear hk HK2 HF2 HB2
    go_wp2_with fail
    have hadd := add_does (ofB (b.take 2)) A2 c2 (payload b) w4 HB4 (by rw [HPL.out]; omega)
    rw [HPL.out, ofB_snoc] at hadd
    refine hadd.mono ?_
    clear hadd
    rintro e w5 ⟨rfl, hk⟩
    have HK5 : Hid (Keep (fun _ => False) w w5) := Keep.trans HK4 hk (fun _ _ h => h)
    have HF5 : Hid (Fresh w5 w.heap.size 5 A2 (many b) c2 ((payload b).map bv)) := Fresh.keep HF4 hk (fun _ _ _ h => h)
    clear hk HK4 HF4 HB4
    cases hs : summed b
    · have hne : ¬ BitVec.ofNat 32 (le ((b.drop 2).take 4)) = ofB (b.take 2 ++ payload b) := by simpa [summed] using hs
      rw [hs] at HE
      generalize BitVec.ofNat 32 (le ((b.drop 2).take 4)) = s1 at *
      generalize ofB (b.take 2 ++ payload b) = s2 at *
      have hq : (iv s1 != iv s2) = true := by rw [bne_iff_ne]; exact fun h => hne (iv_inj.1 h)
      have hq2 : (iv s1 == iv s2) = false := by rw [beq_eq_false_iff_ne]; exact fun h => hne (iv_inj.1 h)
      go_wp2_with fail
      go_ret3
      exact ⟨.inl ⟨by rw [HE.out]; simp, by rw [HE.out]; rfl⟩, HK5⟩
    · have he : BitVec.ofNat 32 (le ((b.drop 2).take 4)) = ofB (b.take 2 ++ payload b) := by simpa [summed] using hs
      rw [hs] at HE
      rw [he]
      generalize ofB (b.take 2 ++ payload b) = s2 at *
      clear he
      go_wp2_with fail
      go_ret3
      refine ⟨.inr ⟨HE.out, A2, c2, ?_, ?_⟩, HK5⟩
      · rw [HPL.out]; push_cast; rfl
      · rw [HPL.out]; exact HF5
end Go.Proofs.Ytopdedhdfaomfaa
