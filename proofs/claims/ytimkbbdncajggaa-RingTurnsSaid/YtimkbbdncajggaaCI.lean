/- Change walked (I). -/
import Derived.Test.YtimkbbdncajggaaTI
import Derived.Test.YtimkbbdncajggaaFq
import Derived.RegionTactic
import Derived.RegionCalls
namespace Go.Proofs.Ytimkbbdncajggaa
open Go.RowKit Go.BigFrame Go.Shelf
theorem changeI_empty {w : World} {B : Nat} {A : Option Addr} {c lim : Nat} {at_ : Nat} (f : Value) (h : RingI w B A c lim [] at_) :
    Calls Try.prog 30 #[.pointer (some ⟨B, 0, none⟩), f] w fun e w' => e = .returned (.bool false) ∧ w' = w := by
  have c1 : w.cell? ⟨B, 1, none⟩ = some (.slice A 0 c) := h.blk.cell 1
  clear h
  go_enter Try.func30, Try.ntmps30
  go_wp2_with fail
  go_ret
  exact ⟨rfl, rfl⟩
theorem changeI_nil {w : World} {B : Nat} {A : Option Addr} {c lim : Nat} {L : List (Int)} {at_ : Nat} (h : RingI w B A c lim L at_) (hL : 0 < L.length) :
    Calls Try.prog 30 #[.pointer (some ⟨B, 0, none⟩), .nilFunc] w fun e w' => e = .returned (.bool false) ∧ w' = w := by
  have c1 : w.cell? ⟨B, 1, none⟩ = some (.slice A L.length c) := h.blk.cell 1
  have hlen : L.length ≤ 64 := Nat.le_trans h.few h.most
  have h0 : ¬ (L.length : Int) - 1 < 0 := by omega
  have hq := run_eql_nil_nil (P := Try.prog) w 60 Try.underlying60
  clear h
  go_enter Try.func30, Try.ntmps30
  go_wp2_with fail
  go_ret
  exact ⟨rfl, rfl⟩
def ChangeI (w : World) (B lim : Nat) (L : List (Int)) (e : Ending) (w' : World) : Prop :=
  e = .returned (.bool true) ∧ ∃ A' c', RingI w' B A' c' lim L 0 ∧ Keep (fun k => k = B) w w' ∧ ∀ k, Foot B A' k → k = B ∨ w.heap.size ≤ k
theorem cellsi_set (x y : Int) (L0 : List (Int)) : cellsi (y :: L0) = (cellsi (x :: L0)).set L0.length (vali y) := by
  simp [cellsi]
set_option maxRecDepth 100000 in
set_option maxHeartbeats 4000000 in
theorem changeI_does {w : World} {B : Nat} {A : Option Addr} {c lim : Nat} {x y : Int} {L0 : List (Int)} {at_ : Nat} {fk : FuncId} {caps : Array Value} (h : RingI w B A c lim (x :: L0) at_)
    (eg : ∀ args w, (callFunc fk args).run Try.prog w = .ok (.enter fk args) w) (hf : ∀ w', Keep (fun k => k = B) w w' → Calls Try.prog fk (#[vali x] ++ caps) w' fun e w'' => e = .returned (vali y) ∧ w'' = w') :
    Calls Try.prog 30 #[.pointer (some ⟨B, 0, none⟩), .func (.func fk) #[] caps] w (ChangeI w B lim (y :: L0)) := by
  have c1 : w.cell? ⟨B, 1, none⟩ = some (.slice A (x :: L0).length c) := h.blk.cell 1
  have hlen : L0.length + 1 ≤ lim := h.few
  have hlim := h.most
  rw [List.length_cons] at c1
  have h0 : ¬ (L0.length : Int) < 0 := by omega
  have hq := run_eql_func_nil (P := Try.prog) w 60 (.func fk) #[] caps Try.underlying60
  have H := Lib.hid h
  have HCL := Lib.hid (cloneI_does A (x :: L0).length c (cellsi (x :: L0)) w h.tail (cellsi_one _) (by rw [List.length_cons]; omega))
  clear h
  go_enter Try.func30, Try.ntmps30
  go_wp2_with fail
  refine HCL.out.mono ?_
  rintro e w2 ⟨A2, c2, rfl, hF, hK⟩
  have hb2 := H.out.blk.keep hK (fun h => h)
  have q1 : w2.cell? ⟨B, 1, none⟩ = some (.slice A (x :: L0).length c) := hb2.cell 1
  have f1 := hb2.frozen 1
  have HB2 := Lib.hid hb2
  have HF := Lib.hid hF
  have HK := Lib.hid hK
  clear hb2 hF hK
  go_wp2_with fail
  have hpos : 0 < L0.length + 1 := by omega
  obtain ⟨g, rfl, hg⟩ : ∃ g, A2 = some ⟨g, 0, none⟩ ∧ w.heap.size ≤ g := by
    rcases HF.out.2 with ⟨hv, h0'⟩ | ⟨g, cap, cur, hv, hg, _⟩
    · rw [List.length_cons] at h0'
      omega
    · injection hv with h1
      exact ⟨g, h1, hg⟩
  have hBw := H.out.blk.lt
  have hT1 : Tail (w2.setCell ⟨B, 1, none⟩ (.slice (some ⟨g, 0, none⟩) (L0.length + 1) c2)) 3 (some ⟨g, 0, none⟩) (L0.length + 1) c2 (cellsi (x :: L0)) :=
    (Tail.of_fresh HF).keep ((Keep.refl (fun k => k = B) w2).setCell (fun _ => rfl) _) (fun k o h e => by cases h; omega)
  have hB1 : Blk (w2.setCell ⟨B, 1, none⟩ (.slice (some ⟨g, 0, none⟩) (L0.length + 1) c2)) B 62 #[.int .i64 (lim : Int), .slice (some ⟨g, 0, none⟩) (L0.length + 1) c2, .int .i64 (at_ : Int)] := Blk.set_ HB2 1 _
  have hK1 : Keep (fun k => k = B) w (w2.setCell ⟨B, 1, none⟩ (.slice (some ⟨g, 0, none⟩) (L0.length + 1) c2)) := (Keep.mono (T := fun k => k = B) HK (fun _ _ h => h.elim)).setCell (p := ⟨B, 1, none⟩) (fun _ => rfl) _
  clear q1 f1 c1 hq HF HB2 HK
  generalize w2.setCell ⟨B, 1, none⟩ (.slice (some ⟨g, 0, none⟩) (L0.length + 1) c2) = W1 at *
  have HKc : Keep (fun k => k = B) w W1.drew := hK1.drew
  have q1 : W1.cell? ⟨B, 1, none⟩ = some (.slice (some ⟨g, 0, none⟩) (L0.length + 1) c2) := hB1.cell 1
  have f2 := hB1.frozen 2
  have q2 : W1.cell? ⟨B, 2, none⟩ = some (.int .i64 (at_ : Int)) := hB1.cell 2
  have hx : (cellsi (x :: L0))[L0.length]? = some (vali x) := by simp [cellsi]
  obtain ⟨cur, hbg⟩ := hT1.blk g 0 rfl
  obtain ⟨g', o', e, hcx⟩ := hT1.reads L0.length _ hx
  cases e
  rw [Nat.zero_add] at hcx
  have fg := hbg.frozen L0.length
  have hjlt : (L0.length : Int) < (L0.length : Int) + 1 := by omega
  have hgB : B ≠ g := by omega
  have FIN : ∀ W', W' = (W1.drew.setCell ⟨g, L0.length, none⟩ (vali y)).setCell ⟨B, 2, none⟩ (.int .i64 0) → ChangeI w B lim (y :: L0) (.returned (.bool true)) W' := by
    rintro W' rfl
    have hT2 := (hT1.keep (Keep.drew (Keep.refl (fun _ => False) W1)) (fun _ _ _ h => h)).set_ (k := L0.length) (by omega) (vali y)
    rw [← cellsi_set, Nat.zero_add] at hT2
    refine ⟨rfl, some ⟨g, 0, none⟩, c2, ⟨((hB1.drew.far (p := ⟨g, L0.length, none⟩) hgB _).set_ 2 _), hT2.keep ((Keep.refl (fun k => k = B) _).setCell (fun _ => rfl) _) (fun k o h e => by cases h; exact hgB e.symm), H.out.one, H.out.most, hlen, .inl (by rw [List.length_cons]; omega)⟩, ?_, ?_⟩
    · exact (HKc.setCell (fun h => absurd h (by show ¬ g < w.heap.size; omega)) _).setCell (fun _ => rfl) _
    · rintro k (rfl | ⟨o, hA⟩)
      · exact .inl rfl
      · cases hA; exact .inr hg
  refine wp_region_any (by kernel_rfl) ?_
  change wpAny _ _ _ _ _ _ _ (World.drew _)
  refine wpAny_take (i := 0) (v := ?_) rfl (by kernel_rfl) (by kernel_rfl) (by kernel_rfl) (fun _ _ _ h => h) (Or.inl ⟨by rfl, by intro w; go_simp; try with_reducible rfl⟩) ?_
  refine wpAny_take (i := 1) (v := ?_) rfl (by kernel_rfl) (by kernel_rfl) (by kernel_rfl) (fun _ _ _ h => h) (Or.inl ⟨by rfl, by intro w; go_simp; try with_reducible rfl⟩) ?_
  refine wpAny_take (i := 2) (v := ?_) rfl (by kernel_rfl) (by kernel_rfl) (by kernel_rfl) (fun _ _ _ h => h) (Or.inl ⟨by rfl, by intro w; go_simp; try with_reducible rfl⟩) ?_
  refine wpAny_take (i := 4) (v := ?_) rfl (by kernel_rfl) (by kernel_rfl) (by kernel_rfl) (fun _ _ _ h => h) (Or.inl ⟨by rfl, by intro w; go_simp; try with_reducible rfl⟩) ?_
  refine wpAny_take (i := 5) (v := ?_) rfl (by kernel_rfl) (by kernel_rfl) (by kernel_rfl) (fun _ _ _ h => h) (Or.inl ⟨by rfl, by intro w; go_simp; try with_reducible rfl⟩) ?_
  refine wpAny_take (i := 6) (v := ?_) rfl (by kernel_rfl) (by kernel_rfl) (by kernel_rfl) (fun _ _ _ h => h) (Or.inl ⟨by rfl, by intro w; go_simp; try with_reducible rfl⟩) ?_
  refine wpAny_take (i := 7) (v := ?_) rfl (by kernel_rfl) (by kernel_rfl) (by kernel_rfl) (fun _ _ _ h => h) (Or.inl ⟨by rfl, by intro w; go_simp; try with_reducible rfl⟩) ?_
  refine wpAny_take (i := 8) (v := ?_) rfl (by kernel_rfl) (by kernel_rfl) (by kernel_rfl) (fun _ _ _ h => h) (Or.inl ⟨by rfl, by intro w; go_simp; try with_reducible rfl⟩) ?_
  refine wpAny_take (i := 9) (v := ?_) rfl (by kernel_rfl) (by kernel_rfl) (by kernel_rfl) (fun _ _ _ h => h) (Or.inl ⟨by rfl, by intro w; go_simp; try with_reducible rfl⟩) ?_
  refine wpAny_take (i := 11) (v := ?_) rfl (by kernel_rfl) (by kernel_rfl) (by kernel_rfl) (fun _ _ _ h => h) (Or.inl ⟨by rfl, by intro w; go_simp; try with_reducible rfl⟩) ?_
  refine wpAny_ready (rs := [3, 10]) (by kernel_rfl) (by simp) (AllReady.cons rfl (fun K hK => ?_) (AllReady.cons rfl (fun K hK => ?_) AllReady.nil))
  · go_simp
    refine hK _ _ ?_
    clear hK K
    refine wpAny_ready (rs := [10]) (by kernel_rfl) (by simp) (AllReady.cons rfl (fun K hK => ?_) AllReady.nil)
    go_simp
    refine hK _ _ ?_
    clear hK K
    refine wpAny_take (i := 12) (v := ?_) rfl (by kernel_rfl) (by kernel_rfl) (by kernel_rfl) (fun _ _ _ h => h) (Or.inl ⟨by rfl, by intro w; go_simp; try with_reducible rfl⟩) ?_
    refine wpAny_ready (rs := [13]) (by kernel_rfl) (by simp) (AllReady.cons rfl (fun K hK => ?_) AllReady.nil)
    go_simp
    refine hK _ _ ?_
    clear hK K
    refine wpAny_ready (rs := [14]) (by kernel_rfl) (by simp) (AllReady.cons rfl (fun K hK => ?_) AllReady.nil)
    go_simp
    refine (hf _ HKc).mono ?_
    rintro e w' ⟨rfl, rfl⟩
    refine hK _ _ ?_
    clear hK K
    refine wpAny_take (i := 15) (v := ?_) rfl (by kernel_rfl) (by kernel_rfl) (by kernel_rfl) (fun _ _ _ h => h) (Or.inl ⟨by rfl, by intro w; go_simp; try with_reducible rfl⟩) ?_
    refine wpAny_ready (rs := [16]) (by kernel_rfl) (by simp) (AllReady.cons rfl (fun K hK => ?_) AllReady.nil)
    go_simp
    refine hK _ _ ?_
    clear hK K
    refine wpAny_take (i := 17) (v := ?_) rfl (by kernel_rfl) (by kernel_rfl) (by kernel_rfl) (fun _ _ _ h => h) (Or.inl ⟨by rfl, by intro w; go_simp; try with_reducible rfl⟩) ?_
    refine wpAny_take (i := 18) (v := ?_) rfl (by kernel_rfl) (by kernel_rfl) (by kernel_rfl) (fun _ _ _ h => h) (Or.inl ⟨by rfl, by intro w; go_simp; try with_reducible rfl⟩) ?_
    refine wpAny_ready (rs := [19]) (by kernel_rfl) (by simp) (AllReady.cons rfl (fun K hK => ?_) AllReady.nil)
    go_simp
    refine hK _ _ ?_
    clear hK K
    refine wpAny_done (by kernel_rfl) ?_ _
    go_wp2_with fail
    exact bodyPost_ret (v := .bool true) (by simp [results, Try.results30, go_sem]) rfl (FIN _ rfl)
  · go_simp
    refine hK _ _ ?_
    clear hK K
    refine wpAny_take (i := 12) (v := ?_) rfl (by kernel_rfl) (by kernel_rfl) (by kernel_rfl) (fun _ _ _ h => h) (Or.inl ⟨by rfl, by intro w; go_simp; try with_reducible rfl⟩) ?_
    refine wpAny_ready (rs := [3, 13]) (by kernel_rfl) (by simp) (AllReady.cons rfl (fun K hK => ?_) (AllReady.cons rfl (fun K hK => ?_) AllReady.nil))
    · go_simp
      refine hK _ _ ?_
      clear hK K
      refine wpAny_ready (rs := [13]) (by kernel_rfl) (by simp) (AllReady.cons rfl (fun K hK => ?_) AllReady.nil)
      go_simp
      refine hK _ _ ?_
      clear hK K
      refine wpAny_ready (rs := [14]) (by kernel_rfl) (by simp) (AllReady.cons rfl (fun K hK => ?_) AllReady.nil)
      go_simp
      refine (hf _ HKc).mono ?_
      rintro e w' ⟨rfl, rfl⟩
      refine hK _ _ ?_
      clear hK K
      refine wpAny_take (i := 15) (v := ?_) rfl (by kernel_rfl) (by kernel_rfl) (by kernel_rfl) (fun _ _ _ h => h) (Or.inl ⟨by rfl, by intro w; go_simp; try with_reducible rfl⟩) ?_
      refine wpAny_ready (rs := [16]) (by kernel_rfl) (by simp) (AllReady.cons rfl (fun K hK => ?_) AllReady.nil)
      go_simp
      refine hK _ _ ?_
      clear hK K
      refine wpAny_take (i := 17) (v := ?_) rfl (by kernel_rfl) (by kernel_rfl) (by kernel_rfl) (fun _ _ _ h => h) (Or.inl ⟨by rfl, by intro w; go_simp; try with_reducible rfl⟩) ?_
      refine wpAny_take (i := 18) (v := ?_) rfl (by kernel_rfl) (by kernel_rfl) (by kernel_rfl) (fun _ _ _ h => h) (Or.inl ⟨by rfl, by intro w; go_simp; try with_reducible rfl⟩) ?_
      refine wpAny_ready (rs := [19]) (by kernel_rfl) (by simp) (AllReady.cons rfl (fun K hK => ?_) AllReady.nil)
      go_simp
      refine hK _ _ ?_
      clear hK K
      refine wpAny_done (by kernel_rfl) ?_ _
      go_wp2_with fail
      exact bodyPost_ret (v := .bool true) (by simp [results, Try.results30, go_sem]) rfl (FIN _ rfl)
    · go_simp
      refine hK _ _ ?_
      clear hK K
      refine wpAny_ready (rs := [3, 14]) (by kernel_rfl) (by simp) (AllReady.cons rfl (fun K hK => ?_) (AllReady.cons rfl (fun K hK => ?_) AllReady.nil))
      · go_simp
        refine hK _ _ ?_
        clear hK K
        refine wpAny_ready (rs := [14]) (by kernel_rfl) (by simp) (AllReady.cons rfl (fun K hK => ?_) AllReady.nil)
        go_simp
        refine (hf _ HKc).mono ?_
        rintro e w' ⟨rfl, rfl⟩
        refine hK _ _ ?_
        clear hK K
        refine wpAny_take (i := 15) (v := ?_) rfl (by kernel_rfl) (by kernel_rfl) (by kernel_rfl) (fun _ _ _ h => h) (Or.inl ⟨by rfl, by intro w; go_simp; try with_reducible rfl⟩) ?_
        refine wpAny_ready (rs := [16]) (by kernel_rfl) (by simp) (AllReady.cons rfl (fun K hK => ?_) AllReady.nil)
        go_simp
        refine hK _ _ ?_
        clear hK K
        refine wpAny_take (i := 17) (v := ?_) rfl (by kernel_rfl) (by kernel_rfl) (by kernel_rfl) (fun _ _ _ h => h) (Or.inl ⟨by rfl, by intro w; go_simp; try with_reducible rfl⟩) ?_
        refine wpAny_take (i := 18) (v := ?_) rfl (by kernel_rfl) (by kernel_rfl) (by kernel_rfl) (fun _ _ _ h => h) (Or.inl ⟨by rfl, by intro w; go_simp; try with_reducible rfl⟩) ?_
        refine wpAny_ready (rs := [19]) (by kernel_rfl) (by simp) (AllReady.cons rfl (fun K hK => ?_) AllReady.nil)
        go_simp
        refine hK _ _ ?_
        clear hK K
        refine wpAny_done (by kernel_rfl) ?_ _
        go_wp2_with fail
        exact bodyPost_ret (v := .bool true) (by simp [results, Try.results30, go_sem]) rfl (FIN _ rfl)
      · go_simp
        refine (hf _ HKc).mono ?_
        rintro e w' ⟨rfl, rfl⟩
        refine hK _ _ ?_
        clear hK K
        refine wpAny_ready (rs := [3]) (by kernel_rfl) (by simp) (AllReady.cons rfl (fun K hK => ?_) AllReady.nil)
        go_simp
        refine hK _ _ ?_
        clear hK K
        refine wpAny_take (i := 15) (v := ?_) rfl (by kernel_rfl) (by kernel_rfl) (by kernel_rfl) (fun _ _ _ h => h) (Or.inl ⟨by rfl, by intro w; go_simp; try with_reducible rfl⟩) ?_
        refine wpAny_ready (rs := [16]) (by kernel_rfl) (by simp) (AllReady.cons rfl (fun K hK => ?_) AllReady.nil)
        go_simp
        refine hK _ _ ?_
        clear hK K
        refine wpAny_take (i := 17) (v := ?_) rfl (by kernel_rfl) (by kernel_rfl) (by kernel_rfl) (fun _ _ _ h => h) (Or.inl ⟨by rfl, by intro w; go_simp; try with_reducible rfl⟩) ?_
        refine wpAny_take (i := 18) (v := ?_) rfl (by kernel_rfl) (by kernel_rfl) (by kernel_rfl) (fun _ _ _ h => h) (Or.inl ⟨by rfl, by intro w; go_simp; try with_reducible rfl⟩) ?_
        refine wpAny_ready (rs := [19]) (by kernel_rfl) (by simp) (AllReady.cons rfl (fun K hK => ?_) AllReady.nil)
        go_simp
        refine hK _ _ ?_
        clear hK K
        refine wpAny_done (by kernel_rfl) ?_ _
        go_wp2_with fail
        exact bodyPost_ret (v := .bool true) (by simp [results, Try.results30, go_sem]) rfl (FIN _ rfl)
end Go.Proofs.Ytimkbbdncajggaa
