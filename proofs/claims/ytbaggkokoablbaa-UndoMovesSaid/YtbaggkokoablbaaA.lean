/- 'alive' answers true, and keeps all that was there. -/
import Derived.Test.YtbaggkokoablbaaI
namespace Go.Proofs.Ytbaggkokoablbaa
open Go.RowKit Go.BigFrame

set_option maxHeartbeats 1000000 in
theorem alive_any (w : World) : Calls Try.prog 9 #[] w fun e w' => e = .returned (.bool true) ∧ Keep (fun _ => False) w w' := by
  go_enter Try.func9, Try.ntmps9
  go_wp2_with fail
  refine (new_i 0 9 w).mono ?_
  rintro e w1 ⟨b, r, lim, rfl, HL, hlim, hb, hr, hk⟩
  obtain rfl : lim = 9 := by omega
  have HL1 := Lib.hid HL
  have HK1 := Lib.hid hk
  clear HL hk hlim
  go_wp2_with fail
  refine (doNewB_i (s := 1) (v := 0) (g := 5) HL1.out (by simp) (by omega) (by omega) rfl rfl (by omega) rfl).mono ?_
  rintro e w2 ⟨r2, rfl, HL, hr2, hk⟩
  have HL2 : Hid (Log_i w2 b r2 9 [0, 1] 1 5) := Lib.hid HL
  have HK2 := Lib.hid hk
  clear HL hk
  go_wp2_with fail
  refine (doNewC_i (s := 2) (v := 1) (g := 5) HL2.out (by simp) (by omega) (by omega) rfl rfl (by omega) rfl).mono ?_
  rintro e w3 ⟨r3, rfl, HL, hr3, hk⟩
  have HL3 : Hid (Log_i w3 b r3 9 [0, 2] 1 5) := Lib.hid HL
  have HK3 := Lib.hid hk
  clear HL hk
  go_wp2_with fail
  refine (doSame_i (s := 2) (v := 2) 0 HL3.out (by simp) rfl rfl).mono ?_
  rintro e w4 ⟨rfl, k, rfl⟩
  go_wp2_with fail
  refine (undoYes_i (v := 0) (HL3.out.drewN k) (by simp) rfl).mono ?_
  rintro e w5 ⟨rfl, HL, hk⟩
  have HL5 := Lib.hid HL
  have HK5 := Lib.hid hk
  clear HL hk
  go_wp2_with fail
  refine (undoNo_i (v := 0) HL5.out (by simp) rfl).mono ?_
  rintro e w6 ⟨rfl, k6, rfl⟩
  go_wp2_with fail
  refine (redoYes_i (v := 2) (HL5.out.drewN k6) (by simp) rfl).mono ?_
  rintro e w7 ⟨rfl, HL, hk⟩
  have HL7 := Lib.hid HL
  have HK7 := Lib.hid hk
  clear HL hk
  go_wp2_with fail
  refine (len_i HL7.out (by simp)).mono ?_
  rintro e w8 ⟨rfl, k8, rfl⟩
  go_wp2_with fail
  refine (now_i (v := 2) (HL7.out.drewN k8) (by simp) rfl).mono ?_
  rintro e w9 ⟨rfl, k9, rfl⟩
  go_wp2
  go_ret
  refine ⟨rfl, ?_⟩
  have K2 := HK1.out.trans HK2.out (fun i hi e => by subst e; omega)
  have K3 := K2.trans HK3.out (fun i hi e => by subst e; omega)
  have K5 := (K3.drewN k).trans HK5.out (fun i hi e => by subst e; omega)
  have K7 := (K5.drewN k6).trans HK7.out (fun i hi e => by subst e; omega)
  exact K7.drewN (k8 + k9)
end Go.Proofs.Ytbaggkokoablbaa
