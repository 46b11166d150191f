/- The ring's methods walked (S): Home, Clone, Copy, All. -/
import Derived.Test.YtimkbbdncajggaaKS
import Derived.Deep.RegionHeld3
namespace Go.Proofs.Ytimkbbdncajggaa
open Go.RowKit Go.BigFrame Go.Shelf
attribute [local go_sem] Oper.semAt_some
theorem homeS_does {w : World} {B : Nat} {A : Option Addr} {c lim : Nat} {L : List (ByteArray)} {at_ : Nat} (h : RingS w B A c lim L at_) : Calls Try.prog 35 #[.pointer (some ⟨B, 0, none⟩)] w fun e w' => (∃ v, e = .returned v) ∧ RingS w' B A c lim L 0 ∧ Keep (fun k => k = B) w w' := by
  have c2 := h.blk.cell 2
  have f2 := h.blk.frozen 2
  have H := Lib.hid h
  clear h
  go_enter Try.func35, Try.ntmps35
  go_wp2_with fail
  go_end0
  have hk : Keep (fun k => k = B) w (w.setCell ⟨B, 2, none⟩ (.int .i64 0)) := (Keep.refl (fun k => k = B) w).setCell (p := ⟨B, 2, none⟩) (fun _ => rfl) _
  refine ⟨⟨_, rfl⟩, ⟨H.out.blk.set_ 2 _, H.out.tail.keep hk (fun k o hA e => by subst e; exact H.out.apart o hA), H.out.one, H.out.most, H.out.few, ?_⟩, hk⟩
  rcases H.out.at_ with h | h
  · exact .inl (by omega)
  · exact .inr ⟨h.1, rfl⟩
def CloneS (w : World) (n : Nat) (xs : List Value) (e : Ending) (w' : World) : Prop :=
  ∃ A c, e = .returned (.slice A n c) ∧ Fresh w' w.heap.size 9 A n c xs ∧ Keep (fun _ => False) w w'
set_option maxHeartbeats 1000000 in
theorem cloneS_does (A : Option Addr) (n c : Nat) (xs : List Value) (w : World) (hT : Tail w 9 A n c xs) (h1 : ∀ u ∈ xs, u.oneCell' = true) (hl : n ≤ 100000) : Calls Try.prog 38 #[.slice A n c] w (CloneS w n xs) := by
  obtain ⟨i0, hi, hz0, hz1, hz2⟩ := partsS
  have HI := Lib.hid hi
  clear hi
  cases A with
  | none =>
    obtain ⟨rfl, rfl⟩ := hT.none_ rfl
    have hxs : xs = [] := List.eq_nil_of_length_eq_zero hT.1
    subst hxs
    have hq := Lib.run_eql_slice_nil (P := Try.prog) w 31 9 none 0 0 0 0 Try.underlying31
    clear hT
    go_enter Try.func38, Try.ntmps38
    go_wp2_with fail
    go_ret
    exact ⟨none, 0, rfl, World.ownsRow_nil _ _ _ _, Keep.refl _ w⟩
  | some ad =>
    have hq := Lib.run_eql_slice_nil (P := Try.prog) w 31 9 (some ad) n c 0 0 Try.underlying31
    have HF : Hid (Fresh (w.alloc (.cells #[] 9)) w.heap.size 9 (some ⟨w.heap.size, 0, none⟩) 0 0 []) := Fresh.made w 9 (Nat.le_refl _)
    have HK : Hid (Keep (fun _ => False) w (w.alloc (.cells #[] 9))) := (Keep.refl _ w).alloc _
    have HR : Hid (ReadsAs (w.alloc (.cells #[] 9)) (some ad) xs) := hT.reads.keep HK (fun _ _ _ h => h)
    have HL := Lib.hid hT.1
    have HO := Lib.hid h1
    clear hT h1
    go_enter Try.func38, Try.ntmps38
    go_wp2_with (at_builtin; go_must (refine wpList_append_onto1 _ rfl _ _ _ rfl w.heap.size 9 i0 (.string ⟨#[]⟩) 16 Try.underlying31 HI.out hz0 hz1 hz2 rfl _ 0 0 [] rfl HF.out (some ad) n c xs rfl HL.out HR.out (fun h => by cases h) HO.out (by omega) (by omega) (by simp) ?_))
    intro A' c' w2 hF hK
    have HK2 : Hid (Keep (fun _ => False) w w2) := Keep.trans HK hK (fun i hi (h : w.heap.size = i) => by omega)
    have HF2 := Lib.hid hF
    clear hF hK hq HL HO HR
    go_wp2_with fail
    refine bodyPost_ret (v := .slice A' n c') (by simp [results, Try.results38, go_sem]) rfl ⟨A', c', rfl, ?_, HK2⟩
    simpa using (show Fresh _ _ _ _ _ _ _ from HF2)
theorem allS_does (B : Nat) (w : World) : Calls Try.prog 17 #[.pointer (some ⟨B, 0, none⟩)] w fun e w' => e = .returned (.func (.func 33) #[] #[.pointer (some ⟨w.heap.size, 0, none⟩)]) ∧ w' = w.alloc (.cells #[.pointer (some ⟨B, 0, none⟩)] 32) := by
  go_enter Try.func17, Try.ntmps17
  go_wp2_with fail
  go_ret
  exact ⟨rfl, rfl⟩
def CopyS (w : World) (lim : Nat) (L : List (ByteArray)) (at_ : Nat) (e : Ending) (w' : World) : Prop :=
  ∃ B A c, e = .returned (.pointer (some ⟨B, 0, none⟩)) ∧ RingS w' B A c lim L at_ ∧ Keep (fun _ => False) w w' ∧ ∀ k, Foot B A k → w.heap.size ≤ k
set_option maxRecDepth 100000 in
set_option maxHeartbeats 2000000 in
theorem copyS_does {w : World} {B : Nat} {A : Option Addr} {c lim : Nat} {L : List (ByteArray)} {at_ : Nat} (h : RingS w B A c lim L at_) : Calls Try.prog 36 #[.pointer (some ⟨B, 0, none⟩)] w (CopyS w lim L at_) := by
  have c0 := h.blk.cell 0
  have c1 := h.blk.cell 1
  have c2 := h.blk.cell 2
  have H := Lib.hid h
  have hlen : L.length ≤ 64 := Nat.le_trans h.few h.most
  have hcl := cloneS_does A L.length c (cellss L) w.drew (h.tail.keep (Keep.drew (Keep.refl (fun _ => False) w)) (fun _ _ _ h => h)) (cellss_one L) (by omega)
  have HCL := Lib.hid hcl
  clear h hcl
  go_enter Try.func36, Try.ntmps36
  go_wp2_with fail
  go_region_held3 (fun w' => w'.cell? ⟨B, 0, none⟩ = some (.int .i64 (lim : Int)) ∧ w'.cell? ⟨B, 1, none⟩ = some (.slice A L.length c) ∧ w'.cell? ⟨B, 2, none⟩ = some (.int .i64 (at_ : Int))) (go_keep) ((go_at_call 38; refine HCL.out.mono ?_; rintro e w2 ⟨A2, c2', rfl, hF, hK⟩; have z0 := (Keep.cell (p := ⟨B, 0, none⟩) hK H.out.blk.lt (fun h => h)).trans c0; have z1 := (Keep.cell (p := ⟨B, 1, none⟩) hK H.out.blk.lt (fun h => h)).trans c1; have z2 := (Keep.cell (p := ⟨B, 2, none⟩) hK H.out.blk.lt (fun h => h)).trans c2))
  have hb : RingS (w2.alloc (.cells #[.int .i64 (lim : Int), .slice A2 L.length c2', .int .i64 (at_ : Int)] 65)) w2.heap.size A2 c2' lim L at_ := ⟨Blk.new w2 65 _, (Tail.of_fresh hF).keep ((Keep.refl (fun _ => False) w2).alloc _) (fun _ _ _ h => h), H.out.one, H.out.most, H.out.few, H.out.at_⟩
  have hk2 : Keep (fun _ => False) w (w2.alloc (.cells #[.int .i64 (lim : Int), .slice A2 L.length c2', .int .i64 (at_ : Int)] 65)) := (((Keep.refl _ w).drew).trans hK (fun _ _ h => h)).alloc _
  have hft : ∀ k, Foot w2.heap.size A2 k → w.heap.size ≤ k := by
    rintro k (rfl | ⟨o, hA⟩)
    · exact hK.size
    · rcases hF.2 with ⟨h0, _⟩ | ⟨g, cap, cur, h0, hg, _⟩
      · injection h0 with h0; rw [h0] at hA; cases hA
      · injection h0 with h0; rw [h0] at hA; cases hA; exact hg
  go_wp2_with fail
  refine bodyPost_ret (v := .pointer (some ⟨w2.heap.size, 0, none⟩)) (by simp [results, Try.results36, go_sem]) rfl ⟨_, _, _, rfl, hb, hk2, hft⟩
end Go.Proofs.Ytimkbbdncajggaa
