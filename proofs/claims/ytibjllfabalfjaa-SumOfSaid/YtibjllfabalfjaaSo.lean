/- SumOf walked. -/
import Derived.Test.YtibjllfabalfjaaRo
import Derived.Test.YtibjllfabalfjaaY
namespace Go.Proofs.Ytibjllfabalfjaa
open Go.RowKit Go.BigFrame
set_option maxRecDepth 100000 in
set_option maxHeartbeats 2000000 in
theorem sumOf_any (A : Option Addr) (c : Nat) (b : List Nat) (w : World) (hb : BytesAt w A b) :
    Calls Try.prog 3 #[.slice A b.length c] w fun e w' => e = .returned (.bool true) ∧ Keep (fun _ => False) w w' := by
  have HB := Lib.hid hb
  clear hb
  go_enter Try.func3, Try.ntmps3
  by_cases hla : 600 < b.length
  · go_wp2_with fail
    refine (alive_does _).mono ?_
    rintro e w2 ⟨rfl, hk⟩
    have HK := Lib.hid hk
    clear hk
    go_wp2_with fail
    exact bodyPost_ret (v := .bool true) (by simp [results, Try.results3, go_sem]) rfl ⟨rfl, HK⟩
  · go_wp2_with fail
    refine (alive_does _).mono ?_
    rintro e w2 ⟨rfl, hk⟩
    have HK := Lib.hid hk
    clear hk
    go_wp2_with fail
    refine (of_does A c b _ (BytesAt.keep HB HK) (by omega)).mono ?_
    rintro e w3 ⟨rfl, hk⟩
    have HK3 : Hid (Keep (fun _ => False) w w3) := Keep.trans HK hk (fun _ _ h => h)
    clear hk HK
    go_wp2_with fail
    refine (refOf_does A c b _ (BytesAt.keep HB HK3) (by omega)).mono ?_
    rintro e w4 ⟨rfl, hk⟩
    have HK4 : Hid (Keep (fun _ => False) w w4) := Keep.trans HK3 hk (fun _ _ h => h)
    clear hk HK3
    go_wp2_with fail
    exact bodyPost_ret (v := .bool true) (by simp [results, Try.results3, go_sem]) rfl ⟨rfl, HK4⟩
end Go.Proofs.Ytibjllfabalfjaa
