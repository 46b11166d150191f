/- slices.Concat walked. -/
import Derived.Test.YtopdedhdfaomfaaC
namespace Go.Proofs.Ytopdedhdfaomfaa
open Go.RowKit Go.BigFrame
/-- A slice of byte slices (nil ones let in). -/
def RowsAt (w : World) (A : Option Addr) (L : List (List Nat)) : Prop :=
  ∀ (i : Nat) (b : List Nat), L[i]? = some b → ∃ g o A' c', A = some ⟨g, o, none⟩ ∧ w.cell? ⟨g, o + i, none⟩ = some (.slice A' b.length c') ∧ BytesAt w A' b ∧ (A' = none → b.length = 0 ∧ c' = 0) ∧ b.length ≤ 140737488351232
theorem RowsAt.keep {w w' : World} {A : Option Addr} {L : List (List Nat)} (h : RowsAt w A L) (hk : Keep (fun _ => False) w w') : RowsAt w' A L := by
  intro i b hi
  obtain ⟨g, o, A', c', hA, hc, hb, hn, hl⟩ := h i b hi
  exact ⟨g, o, A', c', hA, (Keep.cell hk (World.block_lt_of_cell? w _ hc) (fun h => h)).trans hc, hb.keep hk, hn, hl⟩
theorem flat_snoc {L : List (List Nat)} {k : Nat} {b : List Nat} (h : L[k]? = some b) : (L.take (k + 1)).flatten = (L.take k).flatten ++ b := by
  obtain ⟨hk, rfl⟩ := List.getElem?_eq_some_iff.1 h
  rw [List.take_succ_eq_append_getElem hk, List.flatten_append]
  rw [List.flatten_cons, List.flatten_nil, List.append_nil]
theorem flat_le (L : List (List Nat)) (k : Nat) : (L.take k).flatten.length ≤ L.flatten.length := by
  conv => rhs; rw [← List.take_append_drop k L, List.flatten_append, List.length_append]
  omega
theorem RowsAt.lt {w : World} {A : Option Addr} {L : List (List Nat)} (h : RowsAt w A L) : ∀ b ∈ L, ∀ x ∈ b, x < 256 := by
  intro b hb
  obtain ⟨i, hi⟩ := List.getElem?_of_mem hb
  obtain ⟨g, o, A', c', hA, hc, hb, hn, hl⟩ := h i b hi
  exact hb.2
theorem flat_lt {L : List (List Nat)} (h : ∀ b ∈ L, ∀ x ∈ b, x < 256) (k : Nat) : ∀ x ∈ (L.take k).flatten, x < 256 := by
  intro x hx
  obtain ⟨b, hb, hx⟩ := List.mem_flatten.1 hx
  exact h b (List.mem_of_mem_take hb) x hx
set_option maxRecDepth 100000 in
set_option maxHeartbeats 4000000 in
theorem concat_does (A : Option Addr) (c : Nat) (L : List (List Nat)) (w : World) (hL : RowsAt w A L) (hll : L.length ≤ 1000) (htl : L.flatten.length ≤ 100000) :
    Calls Try.prog 21 #[.slice A L.length c] w (BytesPost w L.flatten) := by
  obtain ⟨i0, hi, hz0, hz1, hz2⟩ := info_parts info_byte
  have HL := Lib.hid hL
  clear hL
  go_enter Try.func21, Try.ntmps21
  go_wp2_with fail
  go_loopw [3, 11] (fun y i wr => ∃ (k n : Nat), k ≤ L.length ∧ i = .int .i64 k ∧ n = (L.take k).flatten.length ∧ y = .int .i64 n ∧ wr = w) (fun _ i _ => L.length - (intOf i).toNat)
  case atStart => exact ⟨0, 0, by omega, rfl, rfl, rfl, rfl⟩
  case round =>
    obtain ⟨k, n, hk, rfl, hn, rfl, rfl⟩ := hrel
    have hle := flat_le L k
    rw [← hn] at hle
    have HN := Lib.hid hn
    clear hn
    by_cases hlt : k < L.length
    · obtain ⟨b, hb⟩ : ∃ b, L[k]? = some b := ⟨_, List.getElem?_eq_getElem hlt⟩
      obtain ⟨g, o, Ab, cb, rfl, hc, hbb, hbn, hbl⟩ := HL.out k b hb
      have HSN := Lib.hid (flat_snoc hb)
      have hle2 := flat_le L (k + 1)
      rw [HSN.out, List.length_append, ← HN.out] at hle2
      clear hb hbb hbn
      go_wp2_with fail
      refine ⟨⟨k + 1, n + b.length, by omega, by push_cast; rfl, ?_, by push_cast; rfl, trivial⟩, by simp [intOf]; omega⟩
      rw [HSN.out, List.length_append, ← HN.out]
    · have : k = L.length := by omega
      subst this
      go_wp2_with fail
      refine (grow_does n _ (by omega)).mono ?_
      rintro e w2 ⟨A2, c2, rfl, hF, hK⟩
      have HF := Lib.hid hF
      have HK := Lib.hid hK
      clear hF hK HN hle
      go_wp2_with fail
      go_loopw [6, 27] (fun y i wr2 => ∃ (k n : Nat) (A' : Option Addr) (c' : Nat), k ≤ L.length ∧ i = .int .i64 k ∧ n = (L.take k).flatten.length ∧ y = .slice A' n c' ∧ Fresh wr2 wr.heap.size 5 A' n c' ((L.take k).flatten.map bv) ∧ Keep (fun _ => False) wr wr2) (fun _ i _ => L.length - (intOf i).toNat)
      case atStart => exact ⟨0, 0, A2, c2, by omega, rfl, rfl, rfl, HF, HK⟩
      case round =>
        rename_i w0 _ _ _ _ _ _
        clear HF HK
        obtain ⟨k, n, A', c', hk, rfl, hn, rfl, hF, hkeep⟩ := hrel
        have HF := Lib.hid hF
        have HK := Lib.hid hkeep
        have HN := Lib.hid hn
        have hle := flat_le L k
        rw [← hn] at hle
        by_cases hlt2 : k < L.length
        · obtain ⟨b, hb⟩ : ∃ b, L[k]? = some b := ⟨_, List.getElem?_eq_getElem hlt2⟩
          obtain ⟨g, o, Ab, cb, rfl, hc, hbb, hbn, hbl⟩ := RowsAt.keep HL HK k b hb
          have HSN := Lib.hid (flat_snoc hb)
          have hle2 := flat_le L (k + 1)
          rw [HSN.out, List.length_append, ← HN.out] at hle2
          have HBN := Lib.hid hbn
          have HR := Lib.hid hbb.1
          have HS := Lib.hid hkeep.size
          have HLB := Lib.hid (show (b.map bv).length = b.length from List.length_map _)
          have HO := Lib.hid (bytes_oneCell b)
          clear hb hbb hbn hn hF hkeep
          generalize (L.take k).flatten = pre at *
          go_wp2_with (at_builtin; go_must (refine wpList_append_onto1 _ rfl _ _ _ rfl _ 5 i0 (.int .u8 0) 1 Try.underlying23 hi hz0 hz1 hz2 rfl A' n c' (pre.map bv) rfl HF.out Ab b.length cb (b.map bv) rfl HLB.out HR.out HBN.out HO.out (by omega) (by omega) HS.out ?_))
          intro A2 c2 w3 hF hK
          rw [← List.map_append, ← HSN.out] at hF
          have HF3 := Lib.hid hF
          have HK3 := Lib.hid (keep_new HK HF hK)
          clear hF hK
          go_wp2_with fail
          refine ⟨⟨k + 1, n + b.length, A2, c2, by omega, by push_cast; rfl, ?_, rfl, HF3, HK3⟩, by simp [intOf]; omega⟩
          rw [HSN.out, List.length_append, ← HN.out]
        · have : k = L.length := by omega
          subst this
          rw [List.take_length] at hn hF
          subst hn
          have HF2 := Lib.hid hF
          clear hF hkeep HN HF
          go_wp2_with fail
          exact bodyPost_ret (v := .slice A' L.flatten.length c') (by simp [results, Try.results21, go_sem]) rfl ⟨A', c', rfl, HF2, HK⟩
end Go.Proofs.Ytopdedhdfaomfaa
