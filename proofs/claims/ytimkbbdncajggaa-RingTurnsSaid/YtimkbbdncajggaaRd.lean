/- The reference's Do walked. -/
import Derived.Test.YtimkbbdncajggaaRs
import Derived.Deep.RegionLaw
namespace Go.Proofs.Ytimkbbdncajggaa
open Go.RowKit Go.BigFrame Go.Shelf
theorem Fresh.one {w : World} {base : Nat} (e : TypeId) (v : Value) (hb : base ≤ w.heap.size) : Fresh (w.alloc (.cells #[v] e)) base e (some ⟨w.heap.size, 0, none⟩) 1 1 [v] :=
  ⟨rfl, .inr ⟨w.heap.size, 1, #[v], rfl, hb, World.alloc_heap_new w _, by omega, by unfold maxLen; omega, rfl, rfl⟩⟩
def DoPost (w : World) (A : Option Addr) (lim : Nat) (r : List ByteArray × Nat) (e : Ending) (w' : World) : Prop :=
  ∃ A' c', e = .returned (stV lim A' r.1.length c' r.2) ∧ StAt w' A' c' r.1 ∧ Keep (fun _ => False) w w' ∧ ∀ g o, A' = some ⟨g, o, none⟩ → (∃ o', A = some ⟨g, o', none⟩) ∨ (w.heap.size ≤ g ∧ g < w'.heap.size)
set_option maxRecDepth 100000 in
set_option maxHeartbeats 4000000 in
theorem refDo_does {w : World} {A : Option Addr} {c lim : Nat} {L : List ByteArray} {at_ : Nat} (o : Op) (h : StAt w A c L) (hl : L.length ≤ lim) (hlim : lim ≤ 64) (h1 : 1 ≤ lim) (hat : at_ < L.length ∨ (L.length = 0 ∧ at_ = 0)) (hs : ∀ x ∈ L, x.size + o.s.size ≤ 9223372036854775807) :
    Calls Try.prog 23 #[stV lim A L.length c at_, .agg #[.int .i64 o.kind, .string o.s]] w (DoPost w A lim (stepR lim L at_ o)) := by
  obtain ⟨k, s⟩ := o
  have H := Lib.hid h
  have HS := Lib.hid hs
  clear h hs
  unfold stepR
  dsimp only
  by_cases k0 : k = 0
  · subst k0
    rw [if_pos rfl]
    obtain ⟨i0, hi, hz0, hz1, hz2⟩ := partsS
    have HI := Lib.hid hi
    clear hi
    have hW : ∃ W1, W1 = (((w.alloc (.cells #[.int .i64 (lim : Nat), .slice A L.length c, .int .i64 (at_ : Nat)] 43)).alloc (.cells #[.int .i64 0, .string s] 46)).alloc (.cells #[.int .i64 0, .slice none 0 0, .int .i64 0] 43)) := ⟨_, rfl⟩
    obtain ⟨W1, hW1⟩ := hW
    have z1 : W1.heap.size = w.heap.size + 1 + 1 + 1 := by rw [hW1]; simp
    have k1 : Keep (fun _ => False) w W1 := by rw [hW1]; exact (((Keep.refl _ w).alloc _).alloc _).alloc _
    have b0 : Blk W1 w.heap.size 43 #[.int .i64 (lim : Nat), .slice A L.length c, .int .i64 (at_ : Nat)] := by rw [hW1]; exact ((Blk.new w 43 _).alloc _).alloc _
    have b2 : Blk W1 (w.heap.size + 1 + 1) 43 #[.int .i64 0, .slice none 0 0, .int .i64 0] := by
      rw [hW1]
      have := Blk.new ((w.alloc (.cells #[.int .i64 (lim : Nat), .slice A L.length c, .int .i64 (at_ : Nat)] 43)).alloc (.cells #[.int .i64 0, .string s] 46)) 43 #[.int .i64 0, .slice none 0 0, .int .i64 0]
      rwa [World.size_alloc, World.size_alloc] at this
    have HF : Hid (Fresh (W1.alloc (.cells #[.string s] 9)) (w.heap.size + 1 + 1 + 1) 9 (some ⟨w.heap.size + 1 + 1 + 1, 0, none⟩) 1 1 [.string s]) := by
      have := Fresh.one (w := W1) (base := w.heap.size + 1 + 1 + 1) 9 (.string s) (by omega)
      rwa [z1] at this
    have HR : Hid (ReadsAs (W1.alloc (.cells #[.string s] 9)) A (L.map vals)) := H.out.reads.keep (k1.alloc _) (fun _ _ _ h => h)
    rw [hW1] at HF HR
    go_enter Try.func23, Try.ntmps23
    go_wp2_with (at_builtin; go_must (refine wpList_append_onto1 _ rfl _ _ _ rfl (w.heap.size + 1 + 1 + 1) 9 i0 (.string ⟨#[]⟩) 16 Try.underlying31 HI.out hz0 hz1 hz2 rfl _ 1 1 [.string s] rfl HF.out A L.length c (L.map vals) rfl (by simp) HR.out H.out.nil (by intro u hu; obtain ⟨x, _, rfl⟩ := List.mem_map.1 hu; rfl) (by omega) (by omega) (by simp) ?_))
    intro A' c' w2 hF2 hK2
    rw [← hW1] at hK2
    have HK2 : Hid (Keep (fun _ => False) w w2) := Keep.trans (k1.alloc _) hK2 (fun i hi (h : _ = i) => by omega)
    have hb0 := (b0.alloc (.cells #[.string s] 9)).keep hK2 (fun h => by omega)
    have hb2 := (b2.alloc (.cells #[.string s] 9)).keep hK2 (fun h => by omega)
    obtain ⟨hc1, hc2⟩ := Tail.le (Tail.of_fresh hF2)
    have hz2s : w.heap.size + 1 + 1 < w2.heap.size := by
      have := hK2.size
      simp at this
      omega
    have q0 : w2.cell? ⟨w.heap.size, 0, none⟩ = some (.int .i64 (lim : Nat)) := hb0.cell 0
    have q1 : w2.cell? ⟨w.heap.size, 1, none⟩ = some (.slice A L.length c) := hb0.cell 1
    have q2 : w2.cell? ⟨w.heap.size, 2, none⟩ = some (.int .i64 (at_ : Nat)) := hb0.cell 2
    have f1 := hb0.frozen 1
    have f2 := hb0.frozen 2
    have g0 : w2.cell? ⟨w.heap.size + 1 + 1, 0, none⟩ = some (.int .i64 0) := hb2.cell 0
    have g1 : w2.cell? ⟨w.heap.size + 1 + 1, 1, none⟩ = some (.slice none 0 0) := hb2.cell 1
    have g2 : w2.cell? ⟨w.heap.size + 1 + 1, 2, none⟩ = some (.int .i64 0) := hb2.cell 2
    have e0 := hb2.frozen 0
    have e1 := hb2.frozen 1
    have e2 := hb2.frozen 2
    have HF2 := Lib.hid hF2
    have HB0 := Lib.hid hb0
    have HB2 := Lib.hid hb2
    clear hF2 hK2 hb0 hb2 b0 b2 HF HR k1
    clear hW1 z1 W1
    by_cases hfull : lim < 1 + L.length
    · have hfi : (lim : Int) < 1 + (L.length : Int) := by omega
      go_wp2_with fail
      have hbf : Blk (((((w2.setCell ⟨w.heap.size, 1, none⟩ (.slice A' lim c')).setCell ⟨w.heap.size, 2, none⟩ (.int .i64 0)).setCell ⟨w.heap.size + 1 + 1, 0, none⟩ (.int .i64 (lim : Nat))).setCell ⟨w.heap.size + 1 + 1, 1, none⟩ (.slice A' lim c')).setCell ⟨w.heap.size + 1 + 1, 2, none⟩ (.int .i64 0)) (w.heap.size + 1 + 1) 43 #[.int .i64 (lim : Nat), .slice A' lim c', .int .i64 0] := ((((HB2.out.far (p := ⟨w.heap.size, 1, none⟩) (by simp; omega) _).far (p := ⟨w.heap.size, 2, none⟩) (by simp; omega) _).set_ 0 _).set_ 1 _).set_ 2 _
      have hkf : Keep (fun k => k = w.heap.size ∨ k = w.heap.size + 1 + 1) w2 (((((w2.setCell ⟨w.heap.size, 1, none⟩ (.slice A' lim c')).setCell ⟨w.heap.size, 2, none⟩ (.int .i64 0)).setCell ⟨w.heap.size + 1 + 1, 0, none⟩ (.int .i64 (lim : Nat))).setCell ⟨w.heap.size + 1 + 1, 1, none⟩ (.slice A' lim c')).setCell ⟨w.heap.size + 1 + 1, 2, none⟩ (.int .i64 0)) := (((((Keep.refl _ w2).setCell (fun _ => .inl rfl) _).setCell (fun _ => .inl rfl) _).setCell (fun _ => .inr rfl) _).setCell (fun _ => .inr rfl) _).setCell (fun _ => .inr rfl) _
      generalize (((((w2.setCell ⟨w.heap.size, 1, none⟩ (.slice A' lim c')).setCell ⟨w.heap.size, 2, none⟩ (.int .i64 0)).setCell ⟨w.heap.size + 1 + 1, 0, none⟩ (.int .i64 (lim : Nat))).setCell ⟨w.heap.size + 1 + 1, 1, none⟩ (.slice A' lim c')).setCell ⟨w.heap.size + 1 + 1, 2, none⟩ (.int .i64 0)) = Wf at *
      have r0 : Wf.cell? ⟨w.heap.size + 1 + 1, 0, none⟩ = some (.int .i64 (lim : Nat)) := hbf.cell 0
      have r1 : Wf.cell? ⟨w.heap.size + 1 + 1, 1, none⟩ = some (.slice A' lim c') := hbf.cell 1
      have r2 : Wf.cell? ⟨w.heap.size + 1 + 1, 2, none⟩ = some (.int .i64 0) := hbf.cell 2
      have hrd : ReadsAs Wf A' (([.string s] ++ L.map vals : List Value)) := (HF2.out.keep hkf (fun b o h => by have := (HF2.out.block b o h).1; omega)).reads
      have hln : (List.take lim (s :: L)).length = lim := by rw [List.length_take, List.length_cons]; omega
      refine bodyPost_ret (v := stV lim A' lim c' 0) (by simp [results, Try.results23, go_sem, r0, r1, r2]) rfl ⟨A', c', by rw [hln], ⟨?_, by rw [hln]; omega, hc2, fun h => ?_⟩, Keep.trans HK2 hkf (fun i hi h => by omega), fun g o h => .inr ⟨by have := (HF2.out.block g o h).1; omega, Nat.lt_of_lt_of_le (HF2.out.block g o h).2 hkf.size⟩⟩
      · intro i u hu
        rw [List.map_take] at hu
        refine hrd i u ?_
        have hi := (List.getElem?_eq_some_iff.1 hu).1
        rw [List.length_take] at hi
        rwa [List.getElem?_take_of_lt (by omega)] at hu
      · obtain ⟨h3, _⟩ := Tail.none_ (Tail.of_fresh HF2.out) h
        omega
    · have hfi : ¬ (lim : Int) < 1 + (L.length : Int) := by omega
      go_wp2_with fail
      have hbf : Blk (((((w2.setCell ⟨w.heap.size, 1, none⟩ (.slice A' (1 + L.length) c')).setCell ⟨w.heap.size, 2, none⟩ (.int .i64 0)).setCell ⟨w.heap.size + 1 + 1, 0, none⟩ (.int .i64 (lim : Nat))).setCell ⟨w.heap.size + 1 + 1, 1, none⟩ (.slice A' (1 + L.length) c')).setCell ⟨w.heap.size + 1 + 1, 2, none⟩ (.int .i64 0)) (w.heap.size + 1 + 1) 43 #[.int .i64 (lim : Nat), .slice A' (1 + L.length) c', .int .i64 0] := ((((HB2.out.far (p := ⟨w.heap.size, 1, none⟩) (by simp; omega) _).far (p := ⟨w.heap.size, 2, none⟩) (by simp; omega) _).set_ 0 _).set_ 1 _).set_ 2 _
      have hkf : Keep (fun k => k = w.heap.size ∨ k = w.heap.size + 1 + 1) w2 (((((w2.setCell ⟨w.heap.size, 1, none⟩ (.slice A' (1 + L.length) c')).setCell ⟨w.heap.size, 2, none⟩ (.int .i64 0)).setCell ⟨w.heap.size + 1 + 1, 0, none⟩ (.int .i64 (lim : Nat))).setCell ⟨w.heap.size + 1 + 1, 1, none⟩ (.slice A' (1 + L.length) c')).setCell ⟨w.heap.size + 1 + 1, 2, none⟩ (.int .i64 0)) := (((((Keep.refl _ w2).setCell (fun _ => .inl rfl) _).setCell (fun _ => .inl rfl) _).setCell (fun _ => .inr rfl) _).setCell (fun _ => .inr rfl) _).setCell (fun _ => .inr rfl) _
      generalize (((((w2.setCell ⟨w.heap.size, 1, none⟩ (.slice A' (1 + L.length) c')).setCell ⟨w.heap.size, 2, none⟩ (.int .i64 0)).setCell ⟨w.heap.size + 1 + 1, 0, none⟩ (.int .i64 (lim : Nat))).setCell ⟨w.heap.size + 1 + 1, 1, none⟩ (.slice A' (1 + L.length) c')).setCell ⟨w.heap.size + 1 + 1, 2, none⟩ (.int .i64 0)) = Wf at *
      have r0 : Wf.cell? ⟨w.heap.size + 1 + 1, 0, none⟩ = some (.int .i64 (lim : Nat)) := hbf.cell 0
      have r1 : Wf.cell? ⟨w.heap.size + 1 + 1, 1, none⟩ = some (.slice A' (1 + L.length) c') := hbf.cell 1
      have r2 : Wf.cell? ⟨w.heap.size + 1 + 1, 2, none⟩ = some (.int .i64 0) := hbf.cell 2
      have hrd : ReadsAs Wf A' (([.string s] ++ L.map vals : List Value)) := (HF2.out.keep hkf (fun b o h => by have := (HF2.out.block b o h).1; omega)).reads
      have hln : List.take lim (s :: L) = s :: L := List.take_of_length_le (by rw [List.length_cons]; omega)
      rw [hln]
      refine bodyPost_ret (v := stV lim A' (1 + L.length) c' 0) (by simp [results, Try.results23, go_sem, r0, r1, r2]) rfl ⟨A', c', by rw [List.length_cons, Nat.add_comm], ⟨hrd, by rw [List.length_cons]; omega, hc2, fun h => ?_⟩, Keep.trans HK2 hkf (fun i hi h => by omega), fun g o h => .inr ⟨by have := (HF2.out.block g o h).1; omega, Nat.lt_of_lt_of_le (HF2.out.block g o h).2 hkf.size⟩⟩
      obtain ⟨h3, _⟩ := Tail.none_ (Tail.of_fresh HF2.out) h
      omega
  rw [if_neg k0]
  by_cases k1 : k = 1
  · subst k1
    rw [if_pos rfl]
    cases L with
    | nil =>
      go_enter Try.func23, Try.ntmps23
      go_wp2_with fail
      have HK : ∀ (X Y Z : Obj), Keep (fun _ => False) w (((w.alloc X).alloc Y).alloc Z) := fun _ _ _ => (((Keep.refl _ w).alloc _).alloc _).alloc _
      refine bodyPost_ret (v := stV lim A 0 c at_) (by simp [results, Try.results23, go_sem]) rfl ⟨A, c, rfl, StAt.keep H (HK _ _ _), HK _ _ _, fun _ o h => .inl ⟨o, h⟩⟩
    | cons x L0 =>
      obtain ⟨i0, hi, hz0, hz1, hz2⟩ := partsS
      have HI := Lib.hid hi
      clear hi
      have hxs := HS.out x (List.mem_cons_self ..)
      dsimp only at hxs
      have hlen : L0.length + 1 ≤ 64 := by rw [List.length_cons] at hl; omega
      obtain ⟨g, o, rfl, hcell⟩ := H.out.reads 0 (vals x) rfl
      rw [Nat.add_zero] at hcell
      have hgl := World.block_lt_of_cell? w _ hcell
      have hcle := H.out.le
      rw [List.length_cons] at hcle ⊢
      have hcmx := H.out.max
      have RL : Hid (ReadsAs w (some ⟨g, o + 1, none⟩) (L0.map vals)) := by
        intro i u hu
        obtain ⟨g', o', e, hc⟩ := H.out.reads (i + 1) u (by simpa using hu)
        cases e
        exact ⟨g, o + 1, rfl, by rw [Nat.add_assoc, Nat.add_comm 1 i]; exact hc⟩
      have hp1 : 0 < L0.length + 1 := by omega
      go_enter Try.func23, Try.ntmps23
      go_wp2_with fail
      have b0 : Blk (((w.alloc (.cells #[.int .i64 (lim : Nat), .slice (some ⟨g, o, none⟩) (L0.length + 1) c, .int .i64 (at_ : Nat)] 43)).alloc (.cells #[.int .i64 1, .string s] 46)).alloc (.cells #[.int .i64 0, .slice none 0 0, .int .i64 0] 43)) w.heap.size 43 #[.int .i64 (lim : Nat), .slice (some ⟨g, o, none⟩) (L0.length + 1) c, .int .i64 (at_ : Nat)] := ((Blk.new w 43 _).alloc _).alloc _
      have k1 : Keep (fun _ => False) w (((w.alloc (.cells #[.int .i64 (lim : Nat), .slice (some ⟨g, o, none⟩) (L0.length + 1) c, .int .i64 (at_ : Nat)] 43)).alloc (.cells #[.int .i64 1, .string s] 46)).alloc (.cells #[.int .i64 0, .slice none 0 0, .int .i64 0] 43)) := (((Keep.refl _ w).alloc _).alloc _).alloc _
      have z1 : (((w.alloc (.cells #[.int .i64 (lim : Nat), .slice (some ⟨g, o, none⟩) (L0.length + 1) c, .int .i64 (at_ : Nat)] 43)).alloc (.cells #[.int .i64 1, .string s] 46)).alloc (.cells #[.int .i64 0, .slice none 0 0, .int .i64 0] 43)).heap.size = w.heap.size + 1 + 1 + 1 := by simp
      have b1 : Blk (((w.alloc (.cells #[.int .i64 (lim : Nat), .slice (some ⟨g, o, none⟩) (L0.length + 1) c, .int .i64 (at_ : Nat)] 43)).alloc (.cells #[.int .i64 1, .string s] 46)).alloc (.cells #[.int .i64 0, .slice none 0 0, .int .i64 0] 43)) (w.heap.size + 1) 46 #[.int .i64 1, .string s] := by
        have := (Blk.new (w.alloc (.cells #[.int .i64 (lim : Nat), .slice (some ⟨g, o, none⟩) (L0.length + 1) c, .int .i64 (at_ : Nat)] 43)) 46 #[.int .i64 1, .string s]).alloc (.cells #[.int .i64 0, .slice none 0 0, .int .i64 0] 43)
        rwa [World.size_alloc] at this
      have b2 : Blk (((w.alloc (.cells #[.int .i64 (lim : Nat), .slice (some ⟨g, o, none⟩) (L0.length + 1) c, .int .i64 (at_ : Nat)] 43)).alloc (.cells #[.int .i64 1, .string s] 46)).alloc (.cells #[.int .i64 0, .slice none 0 0, .int .i64 0] 43)) (w.heap.size + 1 + 1) 43 #[.int .i64 0, .slice none 0 0, .int .i64 0] := by
        have := Blk.new ((w.alloc (.cells #[.int .i64 (lim : Nat), .slice (some ⟨g, o, none⟩) (L0.length + 1) c, .int .i64 (at_ : Nat)] 43)).alloc (.cells #[.int .i64 1, .string s] 46)) 43 #[.int .i64 0, .slice none 0 0, .int .i64 0]
        rwa [World.size_alloc, World.size_alloc] at this
      generalize (((w.alloc (.cells #[.int .i64 (lim : Nat), .slice (some ⟨g, o, none⟩) (L0.length + 1) c, .int .i64 (at_ : Nat)] 43)).alloc (.cells #[.int .i64 1, .string s] 46)).alloc (.cells #[.int .i64 0, .slice none 0 0, .int .i64 0] 43)) = W1 at *
      have q1 : W1.cell? ⟨w.heap.size, 1, none⟩ = some (.slice (some ⟨g, o, none⟩) (L0.length + 1) c) := b0.cell 1
      have r1 : W1.cell? ⟨w.heap.size + 1, 1, none⟩ = some (.string s) := b1.cell 1
      have hcg : W1.cell? ⟨g, o, none⟩ = some (vals x) := (Keep.cell k1 (p := ⟨g, o, none⟩) hgl (fun h => h)).trans hcell
      have q1' := cell_alloc_some (w := W1.drew) q1 (.cells #[.string (x ++ s)] 9)
      have f1 := b0.frozen 1
      have HF : Hid (Fresh (W1.drew.alloc (.cells #[.string (x ++ s)] 9)) (w.heap.size + 1 + 1 + 1) 9 (some ⟨w.heap.size + 1 + 1 + 1, 0, none⟩) 1 1 [.string (x ++ s)]) := by
        have := Fresh.one (w := W1.drew) (base := W1.heap.size) 9 (.string (x ++ s)) (Nat.le_refl _)
        rw [show W1.drew.heap.size = W1.heap.size from rfl, z1] at this
        exact this
      have HO : Hid (∀ u ∈ L0.map vals, u.oneCell' = true) := by
        intro u hu
        obtain ⟨y, _, rfl⟩ := List.mem_map.1 hu
        rfl
      have HSZ : Hid (w.heap.size + 1 + 1 + 1 ≤ (W1.drew.alloc (.cells #[.string (x ++ s)] 9)).heap.size) := by
        rw [← z1, World.size_alloc]
        exact Nat.le_succ _
      have B0 := Lib.hid b0
      have B2 := Lib.hid b2
      have K1 := Lib.hid k1
      clear b0 b1 b2 k1
      have hns : ¬ 9223372036854775807 < x.size + s.size := by omega
      have hbs : (1 : Int) ≤ (L0.length : Int) + 1 := by omega
      by_cases hc1 : c = 1
      · have hL0 : L0 = [] := List.eq_nil_of_length_eq_zero (by omega)
        subst hL0
        subst hc1
        have HR : Hid (ReadsAs (W1.drew.alloc (.cells #[.string (x ++ s)] 9)) (some ⟨g, o, none⟩) []) := fun i u hu => by simp at hu
        have HO : Hid (∀ u ∈ ([] : List Value), u.oneCell' = true) := fun u hu => by cases hu
        go_region_law ((go_must (refine step_append_onto _ (by rfl) (.tmp 41) (.tmp 44) _ (by rfl) (w.heap.size + 1 + 1 + 1) 9 i0 (.string ⟨#[]⟩) 16 Try.underlying31 HI.out hz0 hz1 hz2 rfl (some ⟨w.heap.size + 1 + 1 + 1, 0, none⟩) 1 1 [.string (x ++ s)] (by rfl) ?_ (some ⟨g, o, none⟩) 0 0 [] (by rfl) ?_ ?_ ?_ ?_ ?_ ?_ ?_ ?_); exact HF.out; exact rfl; exact HR.out; exact fun h => nomatch h; exact HO.out; omega; omega; exact HSZ.out; intro A3 c3 w3 hF3 hK3; have hb3 := (B0.out.drew.alloc (.cells #[.string (x ++ s)] 9)).keep hK3 (fun h => by first | exact absurd h (by simp) | exact absurd h (by omega)); have hb23 := Lib.hid ((B2.out.drew.alloc (.cells #[.string (x ++ s)] 9)).keep hK3 (fun h => by first | exact absurd h (by simp) | exact absurd h (by omega))); have p0 : w3.cell? ⟨w.heap.size, 0, none⟩ = some (.int .i64 (lim : Nat)) := hb3.cell 0; have p1 := hb3.cell 1; have p1 : w3.cell? ⟨w.heap.size, 1, none⟩ = some _ := p1; have p2 : w3.cell? ⟨w.heap.size, 2, none⟩ = some (.int .i64 (at_ : Nat)) := hb3.cell 2; have p1f := hb3.frozen 1; have p2f := hb3.frozen 2; have HB3 := Lib.hid hb3; have HF3 := Lib.hid hF3; have HK3 : Hid (Keep (fun _ => False) w w3) := Keep.trans (K1.out.drew.alloc _) hK3 (fun i hi h => by first | exact absurd h (by omega) | (obtain ⟨o', h⟩ := h; cases h; omega)); clear hK3 hF3 hb3))
        all_goals
          have g0 : w3.cell? ⟨w.heap.size + 1 + 1, 0, none⟩ = some (.int .i64 0) := hb23.out.cell 0
          have g1 : w3.cell? ⟨w.heap.size + 1 + 1, 1, none⟩ = some (.slice none 0 0) := hb23.out.cell 1
          have g2 : w3.cell? ⟨w.heap.size + 1 + 1, 2, none⟩ = some (.int .i64 0) := hb23.out.cell 2
          have e0 := hb23.out.frozen 0
          have e1 := hb23.out.frozen 1
          have e2 := hb23.out.frozen 2
          obtain ⟨hc3, hc4⟩ := Tail.le (Tail.of_fresh HF3.out)
          have hz2s : w.heap.size + 1 + 1 < w3.heap.size := hb23.out.lt
          go_wp2_with fail
          have hbf : Blk (((((w3.setCell ⟨w.heap.size, 1, none⟩ (.slice A3 (1 + 0) c3)).setCell ⟨w.heap.size, 2, none⟩ (.int .i64 0)).setCell ⟨w.heap.size + 1 + 1, 0, none⟩ (.int .i64 (lim : Nat))).setCell ⟨w.heap.size + 1 + 1, 1, none⟩ (.slice A3 (1 + 0) c3)).setCell ⟨w.heap.size + 1 + 1, 2, none⟩ (.int .i64 0)) (w.heap.size + 1 + 1) 43 #[.int .i64 (lim : Nat), .slice A3 (1 + 0) c3, .int .i64 0] := ((((hb23.out.far (p := ⟨w.heap.size, 1, none⟩) (by simp; omega) _).far (p := ⟨w.heap.size, 2, none⟩) (by simp; omega) _).set_ 0 _).set_ 1 _).set_ 2 _
          have hkf : Keep (fun k => k = w.heap.size ∨ k = w.heap.size + 1 + 1) w3 (((((w3.setCell ⟨w.heap.size, 1, none⟩ (.slice A3 (1 + 0) c3)).setCell ⟨w.heap.size, 2, none⟩ (.int .i64 0)).setCell ⟨w.heap.size + 1 + 1, 0, none⟩ (.int .i64 (lim : Nat))).setCell ⟨w.heap.size + 1 + 1, 1, none⟩ (.slice A3 (1 + 0) c3)).setCell ⟨w.heap.size + 1 + 1, 2, none⟩ (.int .i64 0)) := (((((Keep.refl _ w3).setCell (fun _ => .inl rfl) _).setCell (fun _ => .inl rfl) _).setCell (fun _ => .inr rfl) _).setCell (fun _ => .inr rfl) _).setCell (fun _ => .inr rfl) _
          generalize (((((w3.setCell ⟨w.heap.size, 1, none⟩ (.slice A3 (1 + 0) c3)).setCell ⟨w.heap.size, 2, none⟩ (.int .i64 0)).setCell ⟨w.heap.size + 1 + 1, 0, none⟩ (.int .i64 (lim : Nat))).setCell ⟨w.heap.size + 1 + 1, 1, none⟩ (.slice A3 (1 + 0) c3)).setCell ⟨w.heap.size + 1 + 1, 2, none⟩ (.int .i64 0)) = Wf at *
          have r0 : Wf.cell? ⟨w.heap.size + 1 + 1, 0, none⟩ = some (.int .i64 (lim : Nat)) := hbf.cell 0
          have r1 : Wf.cell? ⟨w.heap.size + 1 + 1, 1, none⟩ = some (.slice A3 (1 + 0) c3) := hbf.cell 1
          have r2 : Wf.cell? ⟨w.heap.size + 1 + 1, 2, none⟩ = some (.int .i64 0) := hbf.cell 2
          have hrd : ReadsAs Wf A3 (([.string (x ++ s)] ++ ([] : List ByteArray).map vals : List Value)) := (HF3.out.keep hkf (fun b o h => by have := (HF3.out.block b o h).1; omega)).reads
          refine bodyPost_ret (v := stV lim A3 (1 + 0) c3 0) (by simp [results, Try.results23, go_sem, r0, r1, r2]) rfl ⟨A3, c3, rfl, ⟨hrd, hc3, hc4, fun h => ?_⟩, Keep.trans HK3 hkf (fun i hi h => by omega), fun g o h => .inr ⟨by have := (HF3.out.block g o h).1; omega, Nat.lt_of_lt_of_le (HF3.out.block g o h).2 hkf.size⟩⟩
          obtain ⟨h3, _⟩ := Tail.none_ (Tail.of_fresh HF3.out) h
          omega
      · have HR : Hid (ReadsAs (W1.drew.alloc (.cells #[.string (x ++ s)] 9)) (some ⟨g, o + 1, none⟩) (L0.map vals)) := RL.out.keep (K1.out.drew.alloc _) (fun _ _ _ h => h)
        go_region_law ((go_must (refine step_append_onto _ (by rfl) (.tmp 41) (.tmp 44) _ (by rfl) (w.heap.size + 1 + 1 + 1) 9 i0 (.string ⟨#[]⟩) 16 Try.underlying31 HI.out hz0 hz1 hz2 rfl (some ⟨w.heap.size + 1 + 1 + 1, 0, none⟩) 1 1 [.string (x ++ s)] (by rfl) ?_ (some ⟨g, o + 1, none⟩) L0.length (c - 1) (L0.map vals) (by rfl) ?_ ?_ ?_ ?_ ?_ ?_ ?_ ?_); exact HF.out; exact List.length_map ..; exact HR.out; exact fun h => nomatch h; exact HO.out; omega; omega; exact HSZ.out; intro A3 c3 w3 hF3 hK3; have hb3 := (B0.out.drew.alloc (.cells #[.string (x ++ s)] 9)).keep hK3 (fun h => by first | exact absurd h (by simp) | exact absurd h (by omega)); have hb23 := Lib.hid ((B2.out.drew.alloc (.cells #[.string (x ++ s)] 9)).keep hK3 (fun h => by first | exact absurd h (by simp) | exact absurd h (by omega))); have p0 : w3.cell? ⟨w.heap.size, 0, none⟩ = some (.int .i64 (lim : Nat)) := hb3.cell 0; have p1 := hb3.cell 1; have p1 : w3.cell? ⟨w.heap.size, 1, none⟩ = some _ := p1; have p2 : w3.cell? ⟨w.heap.size, 2, none⟩ = some (.int .i64 (at_ : Nat)) := hb3.cell 2; have p1f := hb3.frozen 1; have p2f := hb3.frozen 2; have HB3 := Lib.hid hb3; have HF3 := Lib.hid hF3; have HK3 : Hid (Keep (fun _ => False) w w3) := Keep.trans (K1.out.drew.alloc _) hK3 (fun i hi h => by first | exact absurd h (by omega) | (obtain ⟨o', h⟩ := h; cases h; omega)); clear hK3 hF3 hb3))
        all_goals
          have g0 : w3.cell? ⟨w.heap.size + 1 + 1, 0, none⟩ = some (.int .i64 0) := hb23.out.cell 0
          have g1 : w3.cell? ⟨w.heap.size + 1 + 1, 1, none⟩ = some (.slice none 0 0) := hb23.out.cell 1
          have g2 : w3.cell? ⟨w.heap.size + 1 + 1, 2, none⟩ = some (.int .i64 0) := hb23.out.cell 2
          have e0 := hb23.out.frozen 0
          have e1 := hb23.out.frozen 1
          have e2 := hb23.out.frozen 2
          obtain ⟨hc3, hc4⟩ := Tail.le (Tail.of_fresh HF3.out)
          have hz2s : w.heap.size + 1 + 1 < w3.heap.size := hb23.out.lt
          go_wp2_with fail
          have hbf : Blk (((((w3.setCell ⟨w.heap.size, 1, none⟩ (.slice A3 (1 + L0.length) c3)).setCell ⟨w.heap.size, 2, none⟩ (.int .i64 0)).setCell ⟨w.heap.size + 1 + 1, 0, none⟩ (.int .i64 (lim : Nat))).setCell ⟨w.heap.size + 1 + 1, 1, none⟩ (.slice A3 (1 + L0.length) c3)).setCell ⟨w.heap.size + 1 + 1, 2, none⟩ (.int .i64 0)) (w.heap.size + 1 + 1) 43 #[.int .i64 (lim : Nat), .slice A3 (1 + L0.length) c3, .int .i64 0] := ((((hb23.out.far (p := ⟨w.heap.size, 1, none⟩) (by simp; omega) _).far (p := ⟨w.heap.size, 2, none⟩) (by simp; omega) _).set_ 0 _).set_ 1 _).set_ 2 _
          have hkf : Keep (fun k => k = w.heap.size ∨ k = w.heap.size + 1 + 1) w3 (((((w3.setCell ⟨w.heap.size, 1, none⟩ (.slice A3 (1 + L0.length) c3)).setCell ⟨w.heap.size, 2, none⟩ (.int .i64 0)).setCell ⟨w.heap.size + 1 + 1, 0, none⟩ (.int .i64 (lim : Nat))).setCell ⟨w.heap.size + 1 + 1, 1, none⟩ (.slice A3 (1 + L0.length) c3)).setCell ⟨w.heap.size + 1 + 1, 2, none⟩ (.int .i64 0)) := (((((Keep.refl _ w3).setCell (fun _ => .inl rfl) _).setCell (fun _ => .inl rfl) _).setCell (fun _ => .inr rfl) _).setCell (fun _ => .inr rfl) _).setCell (fun _ => .inr rfl) _
          generalize (((((w3.setCell ⟨w.heap.size, 1, none⟩ (.slice A3 (1 + L0.length) c3)).setCell ⟨w.heap.size, 2, none⟩ (.int .i64 0)).setCell ⟨w.heap.size + 1 + 1, 0, none⟩ (.int .i64 (lim : Nat))).setCell ⟨w.heap.size + 1 + 1, 1, none⟩ (.slice A3 (1 + L0.length) c3)).setCell ⟨w.heap.size + 1 + 1, 2, none⟩ (.int .i64 0)) = Wf at *
          have r0 : Wf.cell? ⟨w.heap.size + 1 + 1, 0, none⟩ = some (.int .i64 (lim : Nat)) := hbf.cell 0
          have r1 : Wf.cell? ⟨w.heap.size + 1 + 1, 1, none⟩ = some (.slice A3 (1 + L0.length) c3) := hbf.cell 1
          have r2 : Wf.cell? ⟨w.heap.size + 1 + 1, 2, none⟩ = some (.int .i64 0) := hbf.cell 2
          have hrd : ReadsAs Wf A3 (([.string (x ++ s)] ++ L0.map vals : List Value)) := (HF3.out.keep hkf (fun b o h => by have := (HF3.out.block b o h).1; omega)).reads
          refine bodyPost_ret (v := stV lim A3 (1 + L0.length) c3 0) (by simp [results, Try.results23, go_sem, r0, r1, r2]) rfl ⟨A3, c3, by rw [List.length_cons, Nat.add_comm], ⟨hrd, by rw [List.length_cons, Nat.add_comm]; exact hc3, hc4, fun h => ?_⟩, Keep.trans HK3 hkf (fun i hi h => by omega), fun g o h => .inr ⟨by have := (HF3.out.block g o h).1; omega, Nat.lt_of_lt_of_le (HF3.out.block g o h).2 hkf.size⟩⟩
          obtain ⟨h3, _⟩ := Tail.none_ (Tail.of_fresh HF3.out) h
          omega
  rw [if_neg k1]
  by_cases k2 : k = 2
  · subst k2
    rw [if_pos rfl]
    by_cases hb : L.length ≤ at_ + 1
    · have hn : turnN L.length at_ = 0 := by unfold turnN; rw [if_pos hb]
      have hb2 : (L.length : Int) ≤ (at_ : Int) + 1 := by omega
      rw [hn]
      go_enter Try.func23, Try.ntmps23
      go_wp2_with fail
      have HK : ∀ (X Y Z : Obj), Keep (fun _ => False) w (((w.alloc X).alloc Y).alloc Z) := fun _ _ _ => (((Keep.refl _ w).alloc _).alloc _).alloc _
      refine bodyPost_ret (v := stV lim A L.length c 0) (by simp [results, Try.results23, go_sem]) rfl ⟨A, c, rfl, StAt.keep H (HK _ _ _), HK _ _ _, fun _ o h => .inl ⟨o, h⟩⟩
    · have hn : turnN L.length at_ = at_ + 1 := by unfold turnN; rw [if_neg hb]
      have hb2 : ¬ (L.length : Int) ≤ (at_ : Int) + 1 := by omega
      rw [hn]
      go_enter Try.func23, Try.ntmps23
      go_wp2_with fail
      have HK : ∀ (X Y Z : Obj), Keep (fun _ => False) w (((w.alloc X).alloc Y).alloc Z) := fun _ _ _ => (((Keep.refl _ w).alloc _).alloc _).alloc _
      refine bodyPost_ret (v := stV lim A L.length c (at_ + 1)) (by simp [results, Try.results23, go_sem]) rfl ⟨A, c, rfl, StAt.keep H (HK _ _ _), HK _ _ _, fun _ o h => .inl ⟨o, h⟩⟩
  rw [if_neg k2]
  by_cases k3 : k = 3
  · subst k3
    rw [if_pos rfl]
    go_enter Try.func23, Try.ntmps23
    go_wp2_with fail
    have HK : ∀ (X Y Z : Obj), Keep (fun _ => False) w (((w.alloc X).alloc Y).alloc Z) := fun _ _ _ => (((Keep.refl _ w).alloc _).alloc _).alloc _
    refine bodyPost_ret (v := stV lim A L.length c 0) (by simp [results, Try.results23, go_sem]) rfl ⟨A, c, rfl, StAt.keep H (HK _ _ _), HK _ _ _, fun _ o h => .inl ⟨o, h⟩⟩
  rw [if_neg k3]
  · go_enter Try.func23, Try.ntmps23
    go_wp2_with fail
    have HK : ∀ (X Y Z : Obj), Keep (fun _ => False) w (((w.alloc X).alloc Y).alloc Z) := fun _ _ _ => (((Keep.refl _ w).alloc _).alloc _).alloc _
    refine bodyPost_ret (v := stV lim A L.length c at_) (by simp [results, Try.results23, go_sem]) rfl ⟨A, c, rfl, StAt.keep H (HK _ _ _), HK _ _ _, fun _ o h => .inl ⟨o, h⟩⟩
end Go.Proofs.Ytimkbbdncajggaa
