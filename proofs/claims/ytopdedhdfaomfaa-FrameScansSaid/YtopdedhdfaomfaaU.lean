/- table, Add, Of, Bytes and Read walked. -/
import Derived.Test.YtopdedhdfaomfaaRows
import Derived.Test.YtopdedhdfaomfaaB
import Derived.Test.YtopdedhdfaomfaaQ
import Derived.WalkKit
import Derived.WalkSpells
import Derived.WalkLawsBesides
import Derived.Outline
namespace Go.Proofs.Ytopdedhdfaomfaa
open Go.RowKit Go.BigFrame
def zeros256 : Array Value := Array.replicate 256 (.int .u32 0)
theorem zero52 (w : World) : (zeroValue 52).run Try.prog w = .ok (.agg zeros256) w := by
  kernel_rfl
def tableA : Array Value := Array.ofFn (n := 256) fun i => uv (mx 8 (BitVec.ofNat 32 i))
theorem tableA_get (j : Nat) (hj : j < 256) : tableA[j]? = some (uv (mx 8 (BitVec.ofNat 32 j))) := by
  simp [tableA, hj]
theorem tableA_ext {cur : Array Value} (hs : cur.size = 256) (h : ∀ j, j < 256 → cur[j]? = some (uv (mx 8 (BitVec.ofNat 32 j)))) : cur = tableA := by
  apply Array.ext_getElem?
  intro i
  rcases Nat.lt_or_ge i 256 with hi | hi
  · rw [h i hi, tableA_get i hi]
  · rw [Array.getElem?_eq_none (by omega), Array.getElem?_eq_none (by simp [tableA]; omega)]
theorem iv_ofNat (k : Nat) (h : k < 4294967296) : iv (BitVec.ofNat 32 k) = (k : Int) := by
  simp [iv]
  omega
theorem Keep.setRow {S : Nat → Prop} {w w' : World} (h : Keep S w w') {g : Nat} (hp : g < w.heap.size → S g) (cs : Array Value) : Keep S w (w'.setRow g cs) :=
  h.trans (T := fun k => k = g) ⟨rfl, rfl, rfl, by simp, fun k _ hn => setRow_other _ _ _ _ hn⟩ (fun i hi e => by subst e; exact hp hi)
set_option maxRecDepth 100000 in
set_option maxHeartbeats 1000000 in
theorem table_does (w : World) : Calls Try.prog 27 #[] w fun e w' => e = .returned (.agg tableA) ∧ Keep (fun _ => False) w w' := by
  go_enter Try.func27, Try.ntmps27
  have hz := zero52
  go_wp2_with fail
  go_loopw [4] (fun i wr => ∃ (k : Nat) (cur : Array Value), k ≤ 256 ∧ i = .int .i64 k ∧ Blk wr w.heap.size 52 zeros256 ∧ Blk wr (w.heap.size + 1) 52 cur ∧ cur.size = 256 ∧ (∀ j, j < k → cur[j]? = some (uv (mx 8 (BitVec.ofNat 32 j)))) ∧ Keep (fun _ => False) w wr) (fun i _ => 256 - (intOf i).toNat)
  case atStart =>
    refine ⟨0, zeros256, by omega, rfl, (Blk.new w _ _).alloc _, ?_, by simp [zeros256], fun j h => by omega, ((Keep.refl _ w).alloc _).alloc _⟩
    have := Blk.new (w.alloc (.cells zeros256 52)) 52 zeros256
    rw [World.size_alloc] at this
    exact this
  case round =>
    obtain ⟨k, cur, hk, rfl, hA, hB, hsz, hcur, hkeep⟩ := hrel
    have HA := Lib.hid hA
    have HB := Lib.hid hB
    have HS := Lib.hid hsz
    have HC := Lib.hid hcur
    have HK := Lib.hid hkeep
    clear hA hB hsz hcur hkeep hz
    by_cases hlt : k < 256
    · go_wp2_with fail
      obtain ⟨wo, hwo⟩ : ∃ wo, wo = wr := ⟨_, rfl⟩
      subst hwo
      go_loopw [3, 9] (fun s j wr => ∃ (m : Nat), m ≤ 8 ∧ j = .int .i64 m ∧ s = uv (mx m (BitVec.ofNat 32 k)) ∧ wr = wo) (fun _ j _ => 8 - (intOf j).toNat)
      case atStart =>
        refine ⟨0, by omega, rfl, ?_, rfl⟩
        show _ = Value.int .u32 (iv (BitVec.ofNat 32 k))
        rw [iv_ofNat k (by omega)]
      case round =>
        obtain ⟨m, hm, rfl, rfl, rfl⟩ := hrel
        by_cases hlt2 : m < 8
        · go_wp2_with fail
          have e2 : mulx (mx m (BitVec.ofNat 32 k)) = mx (m + 1) (BitVec.ofNat 32 k) := (mx_succ _ _).symm
          exact ⟨⟨m + 1, by omega, by push_cast; rfl, by rw [iv_mulx, e2], trivial⟩, by simp [intOf]; omega⟩
        · have : m = 8 := by omega
          subst this
          have hB : Blk wr (w.heap.size + 1) 52 cur := HB
          have hsz : cur.size = 256 := HS
          have hcell : wr.cell? ⟨w.heap.size + 1, k, none⟩ = cur[k]? := hB.cell k
          have hfr : wr.frozen? ⟨w.heap.size + 1, k, none⟩ = false := hB.frozen k
          rw [Array.getElem?_eq_getElem (by omega)] at hcell
          generalize hold : cur[k] = old at hcell
          clear hB hsz hold
          go_wp2_with fail
          refine ⟨⟨k + 1, cur.setIfInBounds k (uv (mx 8 (BitVec.ofNat 32 k))), by omega, by push_cast; rfl, Blk.far (show _ from HA) (by simp) _, Blk.set_ (show _ from HB) k _, ?_, ?_, ?_⟩, by simp [intOf]; omega⟩
          · rw [Array.size_setIfInBounds]; exact HS
          · intro j hj
            have hs : cur.size = 256 := HS
            rcases Nat.lt_or_ge j k with h | h
            · rw [Array.getElem?_setIfInBounds_ne (by omega)]
              exact HC j h
            · have : j = k := by omega
              subst this
              rw [Array.getElem?_setIfInBounds_self_of_lt (by omega)]
          · exact Keep.setCell (show _ from HK) (fun h => absurd h (by simp)) _
    · have : k = 256 := by omega
      subst this
      have hc := tableA_ext HS HC
      subst hc
      have hz : zeros256.size = tableA.size := by rw [show tableA.size = 256 from HS]; rfl
      have ht : (Try.prog.info? 52).map (·.size) = some tableA.size := by rw [show tableA.size = 256 from HS]; rfl
      have h1 : tableA.all (·.oneCell') = true := by
        rw [Array.all_eq_true_iff_forall_mem]
        intro v hv
        obtain ⟨i, rfl⟩ := (Array.mem_ofFn).1 hv
        rfl
      go_wp2_with fail
      refine wp_load_row 52 _ rfl (w.heap.size + 1) rfl 52 tableA (0, 0) (.array 256 42) HB rfl rfl ht ?_
      go_wp2_with fail
      have hst : (storeCells ⟨w.heap.size, 0, none⟩ tableA.toList).run Try.prog wr = .ok () (wr.setRow w.heap.size tableA) := by
        have := run_storeCells_from (P := Try.prog) w.heap.size 52 tableA.toList 0 zeros256 wr HA (by rw [hz]; simp) (fun v hv => (Array.all_eq_true_iff_forall_mem.1 h1) v (by simpa using hv))
        simpa using this
      rw [hst]
      go_wp2_with fail
      refine bodyPost_ret (v := .agg tableA) (results_cell_row rfl _ _ w.heap.size 52 tableA (0, 0) (.array 256 42) rfl (setRow_heap wr _ _ _ _ _ HA) rfl rfl ht) rfl ⟨rfl, ?_⟩
      have hk : Keep (fun _ => False) w wr := HK
      exact hk.setRow (by simp) _
end Go.Proofs.Ytopdedhdfaomfaa
