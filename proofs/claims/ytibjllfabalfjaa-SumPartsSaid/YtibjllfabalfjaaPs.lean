/- SumParts walked. -/
import Derived.Test.YtibjllfabalfjaaRo
import Derived.Test.YtibjllfabalfjaaY
namespace Go.Proofs.Ytibjllfabalfjaa
open Go.RowKit Go.BigFrame
/-- A slice of byte slices (nil ones let in). -/
def RowsAt (w : World) (A : Option Addr) (L : List (List Nat)) : Prop :=
  ∀ (i : Nat) (b : List Nat), L[i]? = some b → ∃ g o A' c', A = some ⟨g, o, none⟩ ∧ w.cell? ⟨g, o + i, none⟩ = some (.slice A' b.length c') ∧ BytesAt w A' b ∧ (A' = none → b.length = 0 ∧ c' = 0) ∧ b.length ≤ 140737488351232
theorem RowsAt.keep {w w' : World} {A : Option Addr} {L : List (List Nat)} (h : RowsAt w A L) (hk : Keep (fun _ => False) w w') : RowsAt w' A L := by
  intro i b hi
  obtain ⟨g, o, A', c', hA, hc, hb, hn, hl⟩ := h i b hi
  exact ⟨g, o, A', c', hA, (Keep.cell hk (World.block_lt_of_cell? w _ hc) (fun h => h)).trans hc, hb.keep hk, hn, hl⟩
theorem ofB_snoc (a b : List Nat) : ~~~(addB (~~~(ofB a)) b) = ofB (a ++ b) := by
  unfold ofB
  rw [addB_append, BitVec.not_not]
theorem flat_snoc {L : List (List Nat)} {k : Nat} {b : List Nat} (h : L[k]? = some b) : (L.take (k + 1)).flatten = (L.take k).flatten ++ b := by
  obtain ⟨hk, rfl⟩ := List.getElem?_eq_some_iff.1 h
  rw [List.take_succ_eq_append_getElem hk, List.flatten_append]
  rw [List.flatten_cons, List.flatten_nil, List.append_nil]
theorem flat_lt {L : List (List Nat)} (h : ∀ b ∈ L, ∀ x ∈ b, x < 256) (k : Nat) : ∀ x ∈ (L.take k).flatten, x < 256 := by
  intro x hx
  obtain ⟨b, hb, hx⟩ := List.mem_flatten.1 hx
  exact h b (List.mem_of_mem_take hb) x hx
theorem RowsAt.lt {w : World} {A : Option Addr} {L : List (List Nat)} (h : RowsAt w A L) : ∀ b ∈ L, ∀ x ∈ b, x < 256 := by
  intro b hb
  obtain ⟨i, hi⟩ := List.getElem?_of_mem hb
  obtain ⟨g, o, A', c', hA, hc, hb, hn, hl⟩ := h i b hi
  exact hb.2
set_option maxRecDepth 100000 in
set_option maxHeartbeats 4000000 in
theorem sumParts_any (A : Option Addr) (c : Nat) (L : List (List Nat)) (w : World) (hL : RowsAt w A L) (hreach : L.length * 24 ≤ 140737488351232) :
    Calls Try.prog 4 #[.slice A L.length c] w fun e w' => e = .returned (.bool true) ∧ Keep (fun _ => False) w w' := by
  obtain ⟨i0, hi, hz0, hz1, hz2⟩ := info_parts info_byte
  have HL := Lib.hid hL
  have HLT := Lib.hid hL.lt
  clear hL
  go_enter Try.func4, Try.ntmps4
  go_wp2_with fail
  refine (of_does none 0 [] _ (bytes_nil _) (by decide)).mono ?_
  rintro e w2 ⟨rfl, hk⟩
  have HK := Lib.hid hk
  clear hk
  go_wp2_with fail
  go_loopw [3, 4, 10] (fun y s i wr => ∃ (k n : Nat) (A' : Option Addr) (c' : Nat), k ≤ L.length ∧ i = .int .i64 k ∧ n ≤ 600 ∧ n = (L.take k).flatten.length ∧ y = .slice A' n c' ∧ s = uv (ofB (L.take k).flatten) ∧ Fresh wr w.heap.size 5 A' n c' ((L.take k).flatten.map bv) ∧ Keep (fun _ => False) w wr) (fun _ _ i _ => L.length - (intOf i).toNat)
  case atStart =>
    exact ⟨0, 0, none, 0, by omega, rfl, by omega, rfl, rfl, rfl, World.ownsRow_nil _ _ _ _, HK⟩
  case round =>
    clear HK
    obtain ⟨k, n, A', c', hk, rfl, hn600, hn, rfl, rfl, hF, hkeep⟩ := hrel
    have HF := Lib.hid hF
    have HK := Lib.hid hkeep
    by_cases hlt : k < L.length
    · obtain ⟨b, hb⟩ : ∃ b, L[k]? = some b := ⟨_, List.getElem?_eq_getElem hlt⟩
      obtain ⟨g, o, Ab, cb, rfl, hc0, hbb, hbn, hbl⟩ := HL.out k b hb
      have hc : wr.cell? ⟨g, o + k, none⟩ = some (.slice Ab b.length cb) := (Keep.cell hkeep (World.block_lt_of_cell? w _ hc0) (fun h => h)).trans hc0
      clear hc0
      have HSN := Lib.hid (flat_snoc hb)
      have HOF := Lib.hid (ofB_snoc (L.take k).flatten b)
      have HBB := Lib.hid hbb
      have HBN := Lib.hid hbn
      have HN := Lib.hid hn
      have HS := Lib.hid hkeep.size
      clear hb hF hkeep hbb hbn hn
      generalize (L.take k).flatten = pre at *
      by_cases hbig : 600 < n + b.length
      · go_wp2_with fail
        refine (alive_does _).mono ?_
        rintro e w3 ⟨rfl, hk⟩
        have HK3 : Hid (Keep (fun _ => False) w w3) := Keep.trans HK hk (fun _ _ h => h)
        clear hk HK
        go_wp2_with fail
        exact bodyPost_ret (v := .bool true) (by simp [results, Try.results4, go_sem]) rfl ⟨rfl, HK3⟩
      · have HLB := Lib.hid (show (b.map bv).length = b.length from List.length_map _)
        have HO := Lib.hid (bytes_oneCell b)
        have HR := Lib.hid (show BytesAt wr Ab b from BytesAt.keep HBB HK).1
        go_wp2_with (at_builtin; go_must (refine wpList_append_onto1 _ rfl _ _ _ rfl w.heap.size 5 i0 (.int .u8 0) 1 Try.underlying22 hi hz0 hz1 hz2 rfl A' n c' (pre.map bv) rfl HF.out Ab b.length cb (b.map bv) rfl HLB.out HR.out HBN.out HO.out (by omega) (by omega) HS.out ?_))
        intro A2 c2 w3 hF hK
        rw [← List.map_append] at hF
        have HF3 := Lib.hid hF
        have HK3 : Hid (Keep (fun _ => False) w w3) := Keep.trans HK hK (by
          rintro i hi ⟨o, ho⟩
          have := ((show Fresh _ _ _ _ _ _ _ from HF).block i o ho).1
          omega)
        have HB3 : Hid (BytesAt w3 Ab b) := BytesAt.keep HBB HK3
        clear hF hK HF HK HR HBB HS HO HLB
        go_wp2_with fail
        refine (add_does (ofB pre) Ab cb b _ HB3 (by omega)).mono ?_
        rintro e w4 ⟨rfl, hk⟩
        rw [HOF.out]
        have HK4 : Hid (Keep (fun _ => False) w w4) := Keep.trans HK3 hk (fun _ _ h => h)
        have HF4 : Hid (Fresh w4 w.heap.size 5 A2 (n + b.length) c2 ((pre ++ b).map bv)) := Fresh.keep HF3 hk (fun _ _ _ h => h)
        clear hk HK3 HF3
        go_wp2_with fail
        refine ⟨⟨k + 1, n + b.length, A2, c2, by omega, by push_cast; rfl, by omega, ?_, rfl, ?_, ?_, HK4⟩, by simp [intOf]; omega⟩
        · rw [HSN.out, List.length_append, ← HN.out]
        · rw [HSN.out]
        · rw [HSN.out]; exact HF4
    · have : k = L.length := by omega
      subst this
      have HB0 : Hid (BytesAt wr A' (L.take L.length).flatten) := ⟨hF.reads, flat_lt HLT.out _⟩
      have HN := Lib.hid hn
      clear hF hkeep hn
      generalize (L.take L.length).flatten = pre at *
      obtain rfl : n = pre.length := HN.out
      clear HN
      go_wp2_with fail
      refine (alive_does _).mono ?_
      rintro e w3 ⟨rfl, hk⟩
      have HK3 : Hid (Keep (fun _ => False) w w3) := Keep.trans HK hk (fun _ _ h => h)
      have HB3 : Hid (BytesAt w3 A' pre) := BytesAt.keep HB0 hk
      clear hk HK HB0
      go_wp2_with fail
      refine (refOf_does A' c' pre _ HB3 (by omega)).mono ?_
      rintro e w4 ⟨rfl, hk⟩
      have HK4 : Hid (Keep (fun _ => False) w w4) := Keep.trans HK3 hk (fun _ _ h => h)
      have HB4 : Hid (BytesAt w4 A' pre) := BytesAt.keep HB3 hk
      clear hk HK3 HB3
      go_wp2_with fail
      refine (of_does A' c' pre _ HB4 (by omega)).mono ?_
      rintro e w5 ⟨rfl, hk⟩
      have HK5 : Hid (Keep (fun _ => False) w w5) := Keep.trans HK4 hk (fun _ _ h => h)
      clear hk HK4 HB4
      go_wp2_with fail
      exact bodyPost_ret (v := .bool true) (by simp [results, Try.results4, go_sem]) rfl ⟨rfl, HK5⟩
end Go.Proofs.Ytibjllfabalfjaa
