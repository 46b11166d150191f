/- Add, Of, Bytes and Read walked. -/
import Derived.Test.YtopdedhdfaomfaaU
import Derived.Deep.WholeRow
namespace Go.Proofs.Ytopdedhdfaomfaa
open Go.RowKit Go.BigFrame
/-- A byte as a value. -/
abbrev bv (x : Nat) : Value := .int .u8 (x : Int)
/-- A slice of bytes lies at A (nil, too): cells as the bytes say. -/
def BytesAt (w : World) (A : Option Addr) (b : List Nat) : Prop := ReadsAs w A (b.map bv) ∧ (∀ x ∈ b, x < 256)
theorem BytesAt.keep {w w' : World} {A : Option Addr} {b : List Nat} (h : BytesAt w A b) (hk : Keep (fun _ => False) w w') : BytesAt w' A b :=
  ⟨h.1.keep hk (fun _ _ _ h => h), h.2⟩
theorem BytesAt.get {w : World} {A : Option Addr} {b : List Nat} (h : BytesAt w A b) {k : Nat} (hk : k < b.length) : ∃ g o, A = some ⟨g, o, none⟩ ∧ w.cell? ⟨g, o + k, none⟩ = some (bv b[k]) ∧ b[k] < 256 := by
  obtain ⟨g, o, h1, h2⟩ := h.1 k (bv b[k]) (by simp [hk])
  exact ⟨g, o, h1, h2, h.2 _ (List.getElem_mem hk)⟩
theorem iv_flip (s : BitVec 32) : bits .xor .u32 IntKind.u32.max (iv s) = iv (~~~s) := by
  rw [show IntKind.u32.max = iv (BitVec.allOnes 32) from rfl, iv_xor, BitVec.allOnes_xor]
set_option maxRecDepth 100000 in
set_option maxHeartbeats 1000000 in
theorem add_does (s : BitVec 32) (A : Option Addr) (c : Nat) (b : List Nat) (w : World) (hb : BytesAt w A b) (hl : b.length ≤ 1000000) : Calls Try.prog 19 #[uv s, .slice A b.length c] w fun e w' => e = .returned (uv (~~~(addB (~~~s) b))) ∧ Keep (fun _ => False) w w' := by
  go_enter Try.func19, Try.ntmps19
  have HB := Lib.hid hb
  clear hb
  go_wp2_with fail
  refine (table_does _).mono ?_
  rintro e w2 ⟨rfl, hk⟩
  have HK := Lib.hid hk
  clear hk
  have hs : tableA.size = 256 := by simp [tableA]
  have h1 : tableA.all (·.oneCell') = true := by
    rw [Array.all_eq_true_iff_forall_mem]
    intro v hv
    obtain ⟨i, rfl⟩ := (Array.mem_ofFn).1 hv
    rfl
  have hz := zero52
  have hst : (storeCells ⟨w2.heap.size, 0, none⟩ tableA.toList).run Try.prog (w2.alloc (.cells zeros256 52)) = .ok () ((w2.alloc (.cells zeros256 52)).setRow w2.heap.size tableA) := by
    have := run_storeCells_from (P := Try.prog) w2.heap.size 52 tableA.toList 0 zeros256 _ (Blk.new w2 52 zeros256) (by simp [hs]; rfl) (fun v hv => (Array.all_eq_true_iff_forall_mem.1 h1) v (by simpa using hv))
    simpa using this
  go_wp2_with fail
  have hw : (w2.alloc (.cells zeros256 52)).setRow w2.heap.size tableA = w2.alloc (.cells tableA 52) := World.setRow_alloc_new _ _ _ _
  rw [hw]
  have HT := Lib.hid (Blk.new w2 52 tableA)
  have HB3 := Lib.hid (show BytesAt (w2.alloc (.cells tableA 52)) A b from BytesAt.keep HB (Keep.alloc HK _))
  have HK3 := Lib.hid (show Keep (fun _ => False) w (w2.alloc (.cells tableA 52)) from Keep.alloc HK _)
  generalize w2.alloc (.cells tableA 52) = w3 at *
  clear hst hw hz h1 HB HK
  generalize w2.heap.size = g at *
  go_loopw [0, 13] (fun x i wr => ∃ (k : Nat), k ≤ b.length ∧ i = .int .i64 k ∧ x = uv (addB (~~~s) (b.take k)) ∧ wr = w3) (fun _ i _ => b.length - (intOf i).toNat)
  case atStart =>
    refine ⟨0, by omega, rfl, ?_, rfl⟩
    rw [iv_flip]; rfl
  case round =>
    obtain ⟨k, hk, rfl, rfl, rfl⟩ := hrel
    by_cases hlt : k < b.length
    · obtain ⟨gb, o, rfl, hc, hx⟩ := (show BytesAt wr A b from HB3).get hlt
      generalize hs' : addB (~~~s) (b.take k) = s'
      generalize hbx : b[k] = x at hc hx
      have hxor : bits .xor .u8 (iv s' % 256) (x : Int) = ((s'.toNat % 256 ^^^ x : Nat) : Int) := by
        rw [show iv s' % 256 = ((s'.toNat % 256 : Nat) : Int) by simp [iv]]
        exact u8_xor_nat _ _ (by omega) hx
      have hm : s'.toNat % 256 ^^^ x < 256 := Nat.xor_lt_two_pow (n := 8) (by omega) hx
      have hcell : wr.cell? ⟨g, s'.toNat % 256 ^^^ x, none⟩ = some (uv (mx 8 (BitVec.ofNat 32 (s'.toNat % 256 ^^^ x)))) := by
        rw [Blk.cell HT, tableA_get _ hm]
      generalize hmm : s'.toNat % 256 ^^^ x = m at hxor hm hcell
      have hnext : addB (~~~s) (b.take (k + 1)) = (s' >>> 8) ^^^ mx 8 (BitVec.ofNat 32 m) := by
        rw [List.take_succ_eq_append_getElem hlt, addB_append, hs', hbx, addB_cons, addB_nil, feed_byte _ _ hx, hmm]
      go_wp2_with fail
      refine ⟨⟨k + 1, by omega, by push_cast; rfl, ?_, trivial⟩, by simp [intOf]; omega⟩
      rw [iv_shr8, iv_xor, hnext]
    · have : k = b.length := by omega
      subst this
      rw [List.take_length]
      go_wp2_with fail
      exact bodyPost_ret (v := uv (~~~(addB (~~~s) b))) (by simp [results, Try.results19, go_sem, iv_flip]) rfl ⟨rfl, HK3⟩
set_option maxHeartbeats 1000000 in
theorem of_does (A : Option Addr) (c : Nat) (b : List Nat) (w : World) (hb : BytesAt w A b) (hl : b.length ≤ 1000000) : Calls Try.prog 18 #[.slice A b.length c] w fun e w' => e = .returned (uv (ofB b)) ∧ Keep (fun _ => False) w w' := by
  go_enter Try.func18, Try.ntmps18
  have HB := Lib.hid hb
  clear hb
  go_wp2_with fail
  refine (add_does 0#32 A c b w HB hl).mono ?_
  rintro e w2 ⟨rfl, hk⟩
  have HK := Lib.hid hk
  clear hk
  go_wp2_with fail
  exact bodyPost_ret (v := uv (ofB b)) (by simp [results, Try.results18, go_sem]; rfl) rfl ⟨rfl, HK⟩
end Go.Proofs.Ytopdedhdfaomfaa
