/- alive walked. -/
import Derived.Test.YtibjllfabalfjaaX
import Derived.Sort.AtCall
namespace Go.Proofs.Ytibjllfabalfjaa
open Go.RowKit Go.BigFrame
set_option maxRecDepth 100000 in
set_option maxHeartbeats 2000000 in
theorem alive_does (w : World) : Calls Try.prog 10 #[] w fun e w' => e = .returned (.bool true) ∧ Keep (fun _ => False) w w' := by
  have kc := fun (w : World) (C : Array Value) (n c : Nat) => Lib.run_convert_bytes_const (P := Try.prog) w 22 5 C n c rfl rfl
  go_enter Try.func10, Try.ntmps10
  go_wp2_with fail
  refine (show Calls Try.prog 18 #[.slice (some ⟨w.heap.size + 1, 0, none⟩) 5 5] (aliveW w) fun e w' => e = .returned (.tuple #[.int .u32 3421780262, .bool true]) ∧ w' = aliveW w from by
    have := read_does _ 5 _ _ (aliveW_lit w) (by decide)
    rwa [read_const] at this).mono ?_
  rintro e w2 ⟨rfl, rfl⟩
  have H9 := Lib.hid (aliveW_b9 w)
  have H5 := Lib.hid (aliveW_b5 w)
  have H4 := Lib.hid (aliveW_b4 w)
  have HK := Lib.hid (aliveW_keep w)
  generalize aliveW w = W at *
  clear kc
  go_wp2_with fail
  have heq38 := eq38 38 57 244 203 (by decide) (by decide) (by decide) (by decide)
  refine wp_region_later (by kernel_rfl) (by kernel_rfl) ?_
  repeat (go_big_quiet_step ((first
    | (go_at_call_has 11 (Value.slice (some ⟨w.heap.size, 0, none⟩) 9 9); exact Calls.later (c_nine (Later.on _) H9))
    | (go_at_call_has 11 (Value.slice (some ⟨w.heap.size, 0, none⟩) 4 9); exact Calls.later (c_four (Later.on _) H4))
    | (go_at_call_has 11 (Value.slice (some ⟨w.heap.size, 4, none⟩) 5 5); exact Calls.later (c_five (Later.on _) H5))
    | (go_at_call 11; exact Calls.later (c_nil (Later.on _)))
    | (go_at_call 13; exact Calls.later (c_add (Later.on _) H5))
    | (go_at_call 17; exact Calls.later (c_bytes (Later.on _)))
    | (go_at_call 14; exact Calls.later (c_join (Later.on _)))
    | (go_at_call 15; exact Calls.later (c_shift (Later.on _))))))
  refine wpQuiet_nil ?_
  intro w' hw'
  go_wp2_with fail
  exact bodyPost_ret (v := .bool true) (by simp [results, Try.results10, go_sem]) rfl ⟨rfl, Keep.trans HK hw' (fun _ _ h => h)⟩
end Go.Proofs.Ytibjllfabalfjaa
