/- The reference's row, number and bits walked. -/
import Derived.Test.YtopdedhdfaomfaaX
import Derived.Test.YtopdedhdfaomfaaN
namespace Go.Proofs.Ytopdedhdfaomfaa
open Go.RowKit Go.BigFrame
def BoolsPost (w : World) (l : List Bool) (e : Ending) (w' : World) : Prop :=
  ∃ A c, e = .returned (.slice A l.length c) ∧ Fresh w' w.heap.size 4 A l.length c (l.map Value.bool) ∧ Keep (fun _ => False) w w'
theorem rowN_range (k n : Nat) : rowN k n = (List.range k).map n.testBit := by
  apply List.ext_getElem
  · simp [rowN_length]
  · intro i h1 h2
    have := rowN_get k n i
    rw [List.getD_eq_getElem?_getD, List.getElem?_eq_getElem h1] at this
    rw [rowN_length] at h1
    simpa [h1] using this
theorem rowN_snoc (k n : Nat) : rowN (k + 1) n = rowN k n ++ [n / 2 ^ k % 2 == 1] := by
  rw [rowN_range, rowN_range, List.range_succ, List.map_append]
  congr 1
  simp only [List.map_cons, List.map_nil]
  congr 1
  rw [Nat.testBit_eq_decide_div_mod_eq]
  by_cases h : n / 2 ^ k % 2 = 1 <;> simp [h]
theorem reads_one {w : World} {v : Value} {t : TypeId} : ReadsAs (w.alloc (.cells #[v] t)) (some ⟨w.heap.size, 0, none⟩) [v] := by
  intro i u hu
  match i, hu with
  | 0, hu =>
    simp at hu
    subst hu
    exact ⟨_, _, rfl, (Blk.new w t #[v]).cell 0⟩
theorem one_oneCell (b : Bool) : ∀ u ∈ [Value.bool b], u.oneCell' = true := by
  intro u hu
  simp at hu
  subst hu
  rfl
theorem keep_own {w wr w2 : World} {A : Option Addr} {n c : Nat} {xs : List Value} {o : Obj} (hk : Keep (fun _ => False) w wr) (hF : Fresh wr w.heap.size 4 A n c xs) (h : Keep (fun k => ∃ o, A = some ⟨k, o, none⟩) (wr.alloc o) w2) : Keep (fun _ => False) w w2 :=
  (hk.alloc o).trans h (by
    rintro i hi ⟨o', ho⟩
    have := (hF.block i o' ho).1
    omega)
set_option maxRecDepth 100000 in
set_option maxHeartbeats 2000000 in
theorem number_does (l : List Bool) (hl : l.length = 32) (A : Option Addr) (c : Nat) (w : World) (hr : ReadsAs w A (l.map Value.bool)) : Calls Try.prog 31 #[.slice A 32 c] w fun e w' => e = .returned (uv (win l)) ∧ w' = w := by
  have HR := Lib.hid hr
  clear hr
  go_enter Try.func31, Try.ntmps31
  go_wp2_with fail
  go_loopw [3, 4] (fun y i wr => ∃ (k : Nat), k ≤ 32 ∧ i = .int .i64 ((k : Int) - 1) ∧ y = .int .u32 (num (l.drop k)) ∧ wr = w) (fun _ i _ => (intOf i + 1).toNat)
  case atStart =>
    refine ⟨32, by omega, rfl, ?_, rfl⟩
    rw [List.drop_of_length_le (by omega)]
    rfl
  case round =>
    obtain ⟨k, hk, rfl, rfl, rfl⟩ := hrel
    by_cases hz : k = 0
    · subst hz
      go_wp2_with fail
      have hn := num_lt l
      rw [hl] at hn
      have e : Value.int .u32 (num (l.drop 0)) = uv (win l) := by
        show _ = Value.int .u32 (iv (BitVec.ofNat 32 (num l)))
        rw [iv_ofNat _ (by omega)]
        rfl
      exact bodyPost_ret (v := uv (win l)) (by rw [← e]; simp [results, Try.results31, go_sem]) rfl ⟨rfl, rfl⟩
    · obtain ⟨m, rfl⟩ : ∃ m, k = m + 1 := ⟨k - 1, by omega⟩
      obtain ⟨g, o, rfl, hc⟩ := (show ReadsAs wr A (l.map Value.bool) from HR) m (.bool l[m]) (by simp)
      have hd : num (l.drop m) = (if l[m] then 1 else 0) + 2 * num (l.drop (m + 1)) := by
        rw [List.drop_eq_getElem_cons (by omega)]
        rfl
      have hn := num_lt (l.drop (m + 1))
      have hp : 2 ^ (l.drop (m + 1)).length ≤ 2 ^ 31 := Nat.pow_le_pow_right (by omega) (by simp; omega)
      generalize num (l.drop (m + 1)) = z at *
      have HD := Lib.hid hd
      have hz2 : z < 2147483648 := by omega
      clear hd hn hp
      go_wp2_with fail
      go_ways
      · next h2 =>
        refine ⟨⟨m, by omega, rfl, ?_, trivial⟩, by simp [intOf]⟩
        rw [show num (l.drop m) = _ from HD, h2]
        congr 1
        simp
        omega
      · next h2 =>
        refine ⟨⟨m, by omega, rfl, ?_, trivial⟩, by simp [intOf]⟩
        rw [show num (l.drop m) = _ from HD, h2]
        congr 1
        simp
        omega
theorem bitsOf_snoc (b : List Nat) (i : Nat) (h : i < b.length) : bitsOf (b.take (i + 1)) = bitsOf (b.take i) ++ rowN 8 b[i] := by
  rw [List.take_succ_eq_append_getElem h, bitsOf_append]
  simp [bitsOf]
set_option maxRecDepth 100000 in
set_option maxHeartbeats 2000000 in
theorem bits_does (A0 : Option Addr) (c0 : Nat) (b : List Nat) (w : World) (hb : BytesAt w A0 b) (hl : b.length ≤ 1200) : Calls Try.prog 29 #[.slice A0 b.length c0] w (BoolsPost w (bitsOf b)) := by
  obtain ⟨i0, hi, hz0, hz1, hz2⟩ := info_parts info_bool
  have HB := Lib.hid hb
  clear hb
  go_enter Try.func29, Try.ntmps29
  go_wp2_with fail
  go_loopw [3, 4] (fun y i wr => ∃ (k : Nat) (A : Option Addr) (c : Nat), k ≤ b.length ∧ i = .int .i64 k ∧ y = .slice A (8 * k) c ∧ Fresh wr w.heap.size 4 A (8 * k) c ((bitsOf (b.take k)).map Value.bool) ∧ Keep (fun _ => False) w wr) (fun _ i _ => b.length - (intOf i).toNat)
  case atStart => exact ⟨0, none, 0, by omega, rfl, rfl, World.ownsRow_nil _ _ _ _, Keep.refl _ w⟩
  case round =>
    obtain ⟨k, A, c, hk, rfl, rfl, hF, hkeep⟩ := hrel
    have HF := Lib.hid hF
    have HK := Lib.hid hkeep
    clear hF hkeep
    by_cases hlt : k < b.length
    · obtain ⟨gb, o, rfl, hc, hx⟩ := (BytesAt.keep HB HK).get hlt
      have hsn := bitsOf_snoc b k hlt
      generalize b[k] = x at hc hx hsn
      have HSN := Lib.hid hsn
      clear hsn
      go_wp2_with fail
      go_loopw [3, 5, 6] (fun y n i wr => ∃ (m : Nat) (A : Option Addr) (c : Nat), m ≤ 8 ∧ i = .int .i64 m ∧ n = .int .i64 ((x / 2 ^ m : Nat) : Int) ∧ y = .slice A (8 * k + m) c ∧ Fresh wr w.heap.size 4 A (8 * k + m) c ((bitsOf (b.take k) ++ rowN m x).map Value.bool) ∧ Keep (fun _ => False) w wr) (fun _ _ i _ => 8 - (intOf i).toNat)
      case atStart =>
        refine ⟨0, A, c, by omega, rfl, by simp, rfl, ?_, HK⟩
        simpa [rowN] using (show Fresh _ _ _ _ _ _ _ from HF)
      case round =>
        rename_i wr0
        clear HF HK
        obtain ⟨m, A, c, hm, rfl, rfl, rfl, hF, hkeep⟩ := hrel
        have HF := Lib.hid hF
        have HK := Lib.hid hkeep
        by_cases hm8 : m < 8
        · have hz : ((x / 2 ^ m : Nat) : Int) / 2 = ((x / 2 ^ (m + 1) : Nat) : Int) := by
            rw [Nat.pow_succ, ← Nat.div_div_eq_div_mul]; omega
          have hq256 : x / 2 ^ m < 256 := Nat.lt_of_le_of_lt (Nat.div_le_self _ _) hx
          have HZ := Lib.hid hz
          clear hz
          generalize hq : x / 2 ^ m = q at *
          have HQ := Lib.hid hq
          clear hq
          generalize hv : ((q : Int) % 2 == 1) = v
          have HF2 : Hid (Fresh (wr.alloc (.cells #[.bool v] 4)) w.heap.size 4 A (8 * k + m) c ((bitsOf (b.take k) ++ rowN m x).map Value.bool)) := hF.alloc _
          have HS : Hid (w.heap.size ≤ (wr.alloc (.cells #[.bool v] 4)).heap.size) := (hkeep.alloc _).size
          clear hF hkeep
          go_wp2_with (at_builtin; go_must (refine wpList_append_onto1 _ rfl _ _ _ rfl w.heap.size 4 i0 (.bool false) 1 Try.underlying55 hi hz0 hz1 hz2 rfl A (8 * k + m) c ((bitsOf (b.take k) ++ rowN m x).map Value.bool) rfl HF2.out (some ⟨wr.heap.size, 0, none⟩) 1 1 [.bool v] rfl rfl reads_one (fun h => nomatch h) (one_oneCell v) (by omega) (by omega) HS.out ?_))
          intro A' c' w2 hF hK
          have HF3 := Lib.hid hF
          have HK3 : Hid (Keep (fun _ => False) w w2) := keep_own HK HF hK
          clear hF hK HF HK HF2 HS
          go_wp2_with fail
          have e2 : v = (x / 2 ^ m % 2 == 1) := by
            rw [← hv, show x / 2 ^ m = q from HQ, Bool.eq_iff_iff]
            simp only [beq_iff_eq]
            omega
          refine ⟨⟨m + 1, A', c', by omega, by push_cast; rfl, by rw [show (q : Int) / 2 = _ from HZ], rfl, ?_, HK3⟩, by simp [intOf]; omega⟩
          have e3 : (bitsOf (b.take k) ++ rowN (m + 1) x).map Value.bool = List.map Value.bool (bitsOf (List.take k b)) ++ (List.map Value.bool (rowN m x) ++ [Value.bool v]) := by
            rw [rowN_snoc, ← e2]; simp
          rw [e3]
          exact HF3
        · have : m = 8 := by omega
          subst this
          clear hF hkeep
          go_wp2_with fail
          refine ⟨⟨k + 1, A, c, by omega, by push_cast; rfl, rfl, ?_, HK⟩, by simp [intOf]; omega⟩
          rw [show bitsOf (b.take (k + 1)) = _ from HSN]
          exact HF
    · have : k = b.length := by omega
      subst this
      go_wp2_with fail
      refine bodyPost_ret (v := .slice A (8 * b.length) c) (by simp [results, Try.results29, go_sem]) rfl ⟨A, c, ?_, ?_, HK⟩
      · rw [bitsOf_length]
      · have := (show Fresh _ _ _ _ _ _ _ from HF)
        rw [List.take_length] at this
        rw [bitsOf_length]
        exact this
end Go.Proofs.Ytopdedhdfaomfaa
