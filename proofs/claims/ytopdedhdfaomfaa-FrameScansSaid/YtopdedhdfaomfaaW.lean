/- Bytes and Read walked. -/
import Derived.Test.YtopdedhdfaomfaaV
namespace Go.Proofs.Ytopdedhdfaomfaa
open Go.RowKit Go.BigFrame
def byteOf (s : BitVec 32) (k : Nat) : Nat := s.toNat / 2 ^ (8 * k) % 256
def fourA (s : BitVec 32) : Array Value := #[bv (byteOf s 0), bv (byteOf s 1), bv (byteOf s 2), bv (byteOf s 3)]
set_option maxRecDepth 100000 in
set_option maxHeartbeats 1000000 in
theorem bytes_does (s : BitVec 32) (w : World) : Calls Try.prog 20 #[uv s] w fun e w' => e = .returned (.agg (fourA s)) ∧ Keep (fun _ => False) w w' := by
  go_enter Try.func20, Try.ntmps20
  go_wp2_with fail
  go_loopw [5] (fun i wr => ∃ (k : Nat) (cur : Array Value), k ≤ 4 ∧ i = .int .i64 k ∧ Blk wr w.heap.size 40 #[bv 0, bv 0, bv 0, bv 0] ∧ Blk wr (w.heap.size + 1) 40 cur ∧ cur.size = 4 ∧ (∀ j, j < k → cur[j]? = some (bv (byteOf s j))) ∧ Keep (fun _ => False) w wr) (fun i _ => 4 - (intOf i).toNat)
  case atStart =>
    refine ⟨0, #[bv 0, bv 0, bv 0, bv 0], by omega, rfl, (Blk.new w _ _).alloc _, ?_, rfl, fun j h => by omega, ((Keep.refl _ w).alloc _).alloc _⟩
    have := Blk.new (w.alloc (.cells #[bv 0, bv 0, bv 0, bv 0] 40)) 40 #[bv 0, bv 0, bv 0, bv 0]
    rw [World.size_alloc] at this
    exact this
  case round =>
    obtain ⟨k, cur, hk, rfl, hA, hB, hsz, hcur, hkeep⟩ := hrel
    have HA := Lib.hid hA
    have HB := Lib.hid hB
    have HS := Lib.hid hsz
    have HC := Lib.hid hcur
    have HK := Lib.hid hkeep
    by_cases hlt : k < 4
    · have hcell : wr.cell? ⟨w.heap.size + 1, k, none⟩ = cur[k]? := hB.cell k
      have hfr : wr.frozen? ⟨w.heap.size + 1, k, none⟩ = false := hB.frozen k
      rw [Array.getElem?_eq_getElem (by omega)] at hcell
      generalize hold : cur[k] = old at hcell
      clear hA hB hsz hcur hkeep hold
      go_wp2_with fail
      have hv : Value.int .u8 (iv s / 2 ^ (8 * k) % 256) = bv (byteOf s k) := by simp [iv, byteOf]
      rw [hv]
      refine ⟨⟨k + 1, cur.setIfInBounds k (bv (byteOf s k)), by omega, by push_cast; rfl, Blk.far (show _ from HA) (by simp) _, Blk.set_ (show _ from HB) k _, ?_, ?_, ?_⟩, by simp [intOf]; omega⟩
      · rw [Array.size_setIfInBounds]; exact HS
      · intro j hj
        have hs : cur.size = 4 := HS
        rcases Nat.lt_or_ge j k with h | h
        · rw [Array.getElem?_setIfInBounds_ne (by omega)]
          exact HC j h
        · have : j = k := by omega
          subst this
          rw [Array.getElem?_setIfInBounds_self_of_lt (by omega)]
      · exact Keep.setCell (show _ from HK) (fun h => absurd h (by simp)) _
    · have : k = 4 := by omega
      subst this
      have hc : cur = fourA s := by
        apply Array.ext_getElem?
        intro i
        rcases Nat.lt_or_ge i 4 with hi | hi
        · rw [hcur i hi]
          match i, hi with
          | 0, _ => rfl
          | 1, _ => rfl
          | 2, _ => rfl
          | 3, _ => rfl
        · rw [Array.getElem?_eq_none (by omega), Array.getElem?_eq_none (by simp [fourA]; omega)]
      subst hc
      have c0 : wr.cell? ⟨w.heap.size + 1, 0, none⟩ = some (bv (byteOf s 0)) := hB.cell 0
      have c1 : wr.cell? ⟨w.heap.size + 1, 1, none⟩ = some (bv (byteOf s 1)) := hB.cell 1
      have c2 : wr.cell? ⟨w.heap.size + 1, 2, none⟩ = some (bv (byteOf s 2)) := hB.cell 2
      have c3 : wr.cell? ⟨w.heap.size + 1, 3, none⟩ = some (bv (byteOf s 3)) := hB.cell 3
      have d0 : wr.cell? ⟨w.heap.size, 0, none⟩ = some (bv 0) := hA.cell 0
      have d1 : wr.cell? ⟨w.heap.size, 1, none⟩ = some (bv 0) := hA.cell 1
      have d2 : wr.cell? ⟨w.heap.size, 2, none⟩ = some (bv 0) := hA.cell 2
      have d3 : wr.cell? ⟨w.heap.size, 3, none⟩ = some (bv 0) := hA.cell 3
      have f0 : wr.frozen? ⟨w.heap.size, 0, none⟩ = false := hA.frozen 0
      have f1 : wr.frozen? ⟨w.heap.size, 1, none⟩ = false := hA.frozen 1
      have f2 : wr.frozen? ⟨w.heap.size, 2, none⟩ = false := hA.frozen 2
      have f3 : wr.frozen? ⟨w.heap.size, 3, none⟩ = false := hA.frozen 3
      clear hA hB hsz hcur hkeep
      go_wp2_with fail
      have hA : Blk wr w.heap.size 40 #[bv 0, bv 0, bv 0, bv 0] := HA
      have hF : Blk ((((wr.setCell ⟨w.heap.size, 0, none⟩ (bv (byteOf s 0))).setCell ⟨w.heap.size, 1, none⟩ (bv (byteOf s 1))).setCell ⟨w.heap.size, 2, none⟩ (bv (byteOf s 2))).setCell ⟨w.heap.size, 3, none⟩ (bv (byteOf s 3))) w.heap.size 40 (fourA s) := (((hA.set_ 0 _).set_ 1 _).set_ 2 _).set_ 3 _
      refine bodyPost_ret (v := .agg (fourA s)) (results_cell_row rfl _ _ w.heap.size 40 (fourA s) (0, 0) (.array 4 5) rfl hF rfl rfl rfl) rfl ⟨rfl, ?_⟩
      have hk : Keep (fun _ => False) w wr := HK
      exact (((hk.setCell (by simp) _).setCell (by simp) _).setCell (by simp) _).setCell (by simp) _
/-- Bytes as a number, the lowest first. -/
def le : List Nat → Nat
  | [] => 0
  | x :: xs => x + 256 * le xs
theorem le_lt : ∀ b : List Nat, (∀ x ∈ b, x < 256) → le b < 2 ^ (8 * b.length)
  | [], _ => by simp [le]
  | x :: xs, h => by
    have h1 := le_lt xs (fun y hy => h y (List.mem_cons_of_mem _ hy))
    have h2 := h x (List.mem_cons_self ..)
    rw [List.length_cons, Nat.mul_succ, Nat.pow_add]
    simp only [le]
    omega
theorem le_append (a b : List Nat) : le (a ++ b) = le a + le b * 2 ^ (8 * a.length) := by
  induction a with
  | nil => simp [le]
  | cons x xs ih =>
    rw [List.cons_append, le, le, ih, List.length_cons, Nat.mul_succ, Nat.pow_add, Nat.mul_add, ← Nat.mul_assoc (le b)]
    omega
set_option maxRecDepth 100000 in
set_option maxHeartbeats 1000000 in
theorem read_few (A : Option Addr) (n c : Nat) (hn : n < 4) (w : World) : Calls Try.prog 24 #[.slice A n c] w fun e w' => e = .returned (.tuple #[uv 0#32, .bool false]) ∧ w' = w := by
  have h4 : (n : Int) < 4 := by omega
  go_enter Try.func24, Try.ntmps24
  go_wp2_with fail
  exact bodyPost_ret (v := .tuple #[uv 0#32, .bool false]) (by simp [results, Try.results24, go_sem]; rfl) rfl ⟨rfl, rfl⟩
set_option maxRecDepth 100000 in
set_option maxHeartbeats 1000000 in
theorem read_does (A : Option Addr) (c : Nat) (b : List Nat) (w : World) (hb : BytesAt w A b) (hl : 4 ≤ b.length) : Calls Try.prog 24 #[.slice A b.length c] w fun e w' => e = .returned (.tuple #[uv (BitVec.ofNat 32 (le (b.take 4))), .bool true]) ∧ w' = w := by
  have h4 : ¬ ((b.length : Int) < 4) := by omega
  go_enter Try.func24, Try.ntmps24
  have HB := Lib.hid hb
  clear hb
  go_wp2_with fail
  go_loopw [9, 4] (fun i x wr => ∃ (k : Nat), k ≤ 4 ∧ i = .int .i64 k ∧ x = uv (BitVec.ofNat 32 (le (b.take k))) ∧ wr = w) (fun i _ _ => 4 - (intOf i).toNat)
  case atStart => exact ⟨0, by omega, rfl, rfl, rfl⟩
  case round =>
    obtain ⟨k, hk, rfl, rfl, rfl⟩ := hrel
    by_cases hlt : k < 4
    · obtain ⟨gb, o, rfl, hc, hx⟩ := (show BytesAt wr A b from HB).get (show k < b.length by omega)
      have hall := (show BytesAt wr _ b from HB).2
      have hlen : (b.take k).length = k := by simp; omega
      have hlow := le_lt (b.take k) (fun x hx => hall x (List.mem_of_mem_take hx))
      rw [hlen] at hlow
      have hnext : le (b.take (k + 1)) = le (b.take k) + b[k] * 2 ^ (8 * k) := by
        rw [List.take_succ_eq_append_getElem (by omega), le_append, hlen]
        simp [le]
      have hp : 2 ^ (8 * k) * 256 ≤ 4294967296 := by
        match k, hlt with
        | 0, _ => decide
        | 1, _ => decide
        | 2, _ => decide
        | 3, _ => decide
      generalize b[k] = x at hc hx hnext
      generalize le (b.take k) = y at hlow hnext
      have hj := nat_join (8 * k) (x * 2 ^ (8 * k)) y (by simp) hlow
      have hxm : x * 2 ^ (8 * k) ≤ 255 * 2 ^ (8 * k) := Nat.mul_le_mul_right _ (by omega)
      clear hall
      have HH := Lib.hid hnext
      have HJ := Lib.hid hj
      have HP := Lib.hid hp
      have HX := Lib.hid hxm
      have HW := Lib.hid hlow
      clear hnext hj hp hxm hlow
      go_wp2_with fail
      refine ⟨⟨k + 1, by omega, by push_cast; rfl, ?_, trivial⟩, by simp [intOf]; omega⟩
      have hnext : le (b.take (k + 1)) = y + x * 2 ^ (8 * k) := HH
      have hj : x * 2 ^ (8 * k) ||| y = x * 2 ^ (8 * k) + y := HJ
      have hp : 2 ^ (8 * k) * 256 ≤ 4294967296 := HP
      have hxm : x * 2 ^ (8 * k) ≤ 255 * 2 ^ (8 * k) := HX
      have hlow : y < 2 ^ (8 * k) := HW
      have e1 : (x : Int) * 2 ^ (8 * k) % 4294967296 = iv (BitVec.ofNat 32 (x * 2 ^ (8 * k))) := by
        simp [iv]
      rw [e1, iv_or, hnext]
      show uv _ = uv _
      congr 2
      apply BitVec.eq_of_toNat_eq
      rw [BitVec.toNat_or, BitVec.toNat_ofNat, BitVec.toNat_ofNat, BitVec.toNat_ofNat, Nat.mod_eq_of_lt (by omega), Nat.mod_eq_of_lt (by omega), Nat.mod_eq_of_lt (by omega), Nat.or_comm, hj, Nat.add_comm]
    · have : k = 4 := by omega
      subst this
      go_wp2_with fail
      exact bodyPost_ret (v := .tuple #[uv (BitVec.ofNat 32 (le (b.take 4))), .bool true]) (by simp [results, Try.results24, go_sem]) rfl ⟨rfl, rfl⟩
end Go.Proofs.Ytopdedhdfaomfaa
