/- alive walked. -/
import Derived.Test.YtimkbbdncajggaaCI
namespace Go.Proofs.Ytimkbbdncajggaa
open Go.RowKit Go.BigFrame Go.Shelf
def rk : Nat → List Int
  | 0 => []
  | k + 1 => ((k : Int) :: rk k).take 2
theorem alive1_does (w : World) : Calls Try.prog 31 #[.int .i64 2] w fun e w' => e = .returned (.int .i64 20) ∧ w' = w := by
  go_enter Try.func31, Try.ntmps31
  go_wp2_with fail
  go_ret
  exact ⟨rfl, rfl⟩
theorem clamp2 : clampN 2 = 2 := by decide
set_option maxRecDepth 100000 in
set_option maxHeartbeats 4000000 in
theorem alive_does (w : World) : Calls Try.prog 9 #[] w fun e w' => e = .returned (.bool true) ∧ Keep (fun _ => False) w w' := by
  go_enter Try.func9, Try.ntmps9
  go_wp2_with fail
  refine (newI_does 2 w).mono ?_
  rintro e w2 ⟨rfl, hR, hk⟩
  rw [clamp2] at hR
  have HR := Lib.hid hR
  have HK := Lib.hid hk
  have hsz := hR.blk.lt
  clear hR hk
  go_wp2_with fail
  refine (topI_does HR).mono ?_
  rintro e w3 ⟨rfl, hk3⟩
  have HR3 := Lib.hid (HR.out.keep hk3 (fun _ _ h => h))
  have HK3 : Hid (Keep (fun _ => False) w w3) := Keep.trans HK hk3 (fun _ _ h => h)
  clear hk3 HR HK
  go_wp2_with fail
  go_loopw [20] (fun i wr => ∃ (k : Nat) (A : Option Addr) (c : Nat), k ≤ 3 ∧ i = .int .i64 (k : Nat) ∧ RingI wr w.heap.size A c 2 (rk k) 0 ∧ Keep (fun _ => False) w wr ∧ ∀ j, Foot w.heap.size A j → w.heap.size ≤ j) (fun i _ => 3 - (intOf i).toNat)
  case atStart => exact ⟨0, none, 0, by omega, rfl, HR3, HK3, by rintro j (rfl | ⟨o, h⟩); exact Nat.le_refl _; cases h⟩
  case round =>
    clear HR3 HK3
    obtain ⟨k, A, c, hk, rfl, hR, hK, hft⟩ := hrel
    have HR := Lib.hid hR
    have HK := Lib.hid hK
    have HFT := Lib.hid hft
    clear hR hK hft
    by_cases h3 : k < 3
    · go_wp2_with fail
      refine (pushI_does HR (k : Int)).mono ?_
      rintro e w4 ⟨⟨v, rfl⟩, A', c', hR', hk', hft'⟩
      have HR' := Lib.hid hR'
      have HK' : Hid (Keep (fun _ => False) w w4) := Keep.trans HK hk' (fun i hi h => by have := HFT.out i h; omega)
      have hs4 := (Keep.size HK)
      have HFT' : Hid (∀ j, Foot w.heap.size A' j → w.heap.size ≤ j) := fun j h => (hft' j h).elim (HFT.out j) (fun h => by omega)
      clear hR' hk' hft'
      go_wp2_with fail
      exact ⟨⟨k + 1, A', c', by omega, by push_cast; rfl, HR', HK', HFT'⟩, by simp [intOf]; omega⟩
    · have : k = 3 := by omega
      subst this
      have e3 : rk 3 = [2, 1] := by decide
      rw [e3] at HR
      have hBw := HR.out.blk.lt
      go_wp2_with fail
      refine (turnI_does HR).mono ?_
      rintro e w5 ⟨rfl, hR5, hk5⟩
      have HR5 : Hid (RingI w5 w.heap.size A c 2 [2, 1] 1) := hR5
      have HK5 : Hid (Keep (fun _ => False) w w5) := Keep.trans HK hk5 (fun i hi h => by omega)
      clear hR5 hk5 HR HK
      go_wp2_with fail
      refine (copyI_does HR5).mono ?_
      rintro e w6 ⟨B2, A2, c2, rfl, hR6, hk6, hft6⟩
      have HR6 := Lib.hid hR6
      have HR56 := Lib.hid (HR5.out.keep hk6 (fun _ _ h => h))
      have HK6 : Hid (Keep (fun _ => False) w w6) := Keep.trans HK5 hk6 (fun _ _ h => h)
      have hs5 := HR5.out.blk.lt
      have HF6 := Lib.hid hft6
      clear hR6 hk6 HR5 HK5 hft6
      go_wp2_with fail
      refine (turnI_does HR56).mono ?_
      rintro e w7 ⟨rfl, hR7, hk7⟩
      have HR7 : Hid (RingI w7 w.heap.size A c 2 [2, 1] 0) := hR7
      have HR67 := Lib.hid (HR6.out.keep hk7 (fun k hf h => by have := HF6.out k hf; omega))
      have HK7 : Hid (Keep (fun _ => False) w w7) := Keep.trans HK6 hk7 (fun i hi h => by omega)
      clear hR7 hk7 HK6 HR6 HR56
      go_wp2_with fail
      refine (topI_does HR67).mono ?_
      rintro e w8 ⟨rfl, hk8⟩
      have HR8 := Lib.hid (HR7.out.keep hk8 (fun _ _ h => h))
      have HK8 : Hid (Keep (fun _ => False) w w8) := Keep.trans HK7 hk8 (fun _ _ h => h)
      clear hk8 HK7 HR7 HR67
      have t1 : topI [2, 1] (turnN 2 0) = 1 := by decide
      have t2 : topI [2, 1] (turnN 2 1) = 2 := by decide
      have t3 : topI [2, 1] 1 = 1 := by decide
      have t0 : topI [] 0 = 0 := by decide
      simp only [List.length_cons, List.length_nil, Nat.zero_add, Nat.reduceAdd, t1, t2, t3, t0]
      go_wp2_with fail
      refine (lenI_does HR8).mono ?_
      rintro e w9 ⟨rfl, rfl⟩
      simp only [List.length_cons, List.length_nil, Nat.zero_add, Nat.reduceAdd]
      go_wp2_with fail
      refine (changeI_nil HR8 (by decide)).mono ?_
      rintro e w9 ⟨rfl, rfl⟩
      go_wp2_with fail
      refine (changeI_does (caps := #[]) (y := 20) HR8 (enters_of Try.func31 (by kernel_rfl) rfl) (fun w' _ => alive1_does w')).mono ?_
      rintro e w9 ⟨rfl, A9, c9, _, hk9, _⟩
      have HK9 : Hid (Keep (fun _ => False) w w9) := Keep.trans HK8 hk9 (fun i hi h => by omega)
      clear hk9 HK8 HR8
      go_wp2_with fail
      exact bodyPost_ret (v := .bool true) (by simp [results, Try.results9, go_sem]) rfl ⟨rfl, HK9⟩
end Go.Proofs.Ytimkbbdncajggaa
