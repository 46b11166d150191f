/- The reference's Do: the way 'undoYes'. -/
import Derived.Test.YtbaggkokoablbaaRH
namespace Go.Proofs.Ytbaggkokoablbaa
open Go.RowKit Go.BigFrame

set_option maxRecDepth 100000 in
set_option maxHeartbeats 4000000 in
theorem refDo_undoYes {st : St} {s : ByteArray} {g : Int} {w : World} {bad : Nat → Prop} {A1 A2 : Option Addr} {c1 c2 : Nat} (h1 : SlAt w bad A1 c1 st.back) (h2 : SlAt w bad A2 c2 st.forth) (ok : st.Ok) (hbad : ∀ k, w.heap.size ≤ k → ¬ bad k) (hb : st.back ≠ []) :
    Calls Try.prog 21 #[.agg #[.int .i64 st.lim, .slice A1 st.back.length c1, .string st.now, .slice A2 st.forth.length c2, .int .i64 st.op], .agg #[.int .i64 3, .string s, .int .i64 g]] w (RefPost w bad (st.step ⟨3, s, g⟩).1 (st.step ⟨3, s, g⟩).2) := by
  have e1 : st.step ⟨3, s, g⟩ = (({ lim := st.lim, back := st.back.dropLast, now := st.back.getLast?.getD ByteArray.empty, forth := st.forth ++ [st.now], op := 0 } : St), true) := by unfold St.step; rw [if_neg (by dsimp only; decide), if_neg (by dsimp only; decide), if_neg (by dsimp only; decide), if_pos rfl]; exact if_neg hb
  rw [e1]
  obtain ⟨i0, hi, hz0, hz1, hz2⟩ := info_parts info_s
  have hl0 := ok.one
  have hl1 := ok.most
  have hl2 := ok.room
  have H1 := Lib.hid h1
  have H2 := Lib.hid h2
  have HBAD := Lib.hid hbad
  have hpos : 0 < st.back.length := List.length_pos_iff.2 hb
  have hb0 : ((st.back.length : Int) == 0) = false := by simp; omega
  have HNE := Lib.hid hb
  clear hb
  clear h1 h2 hbad e1
  go_enter Try.func21, Try.ntmps21
  go_upto_region 23 with fail
  generalize hW : ((w.alloc (.cells #[.int .i64 st.lim, .slice A1 st.back.length c1, .string st.now, .slice A2 st.forth.length c2, .int .i64 st.op] 41)).alloc (.cells #[.int .i64 3, .string s, .int .i64 g] 44)).alloc
    (.cells #[.int .i64 0, .slice none 0 0, .string ⟨#[]⟩, .slice none 0 0, .int .i64 0] 41) = W1
  obtain ⟨hB0, hB1, hB2, hsz, hK1⟩ := boxed3 hW
  have HS1 := Lib.hid (H2.out.keep hK1 (fun _ _ h => h.elim))
  have HB0 := Lib.hid hB0
  have HB1 := Lib.hid hB1
  have HB2 := Lib.hid hB2
  have HK1 := Lib.hid hK1
  have d1 := hB0.cell 3
  have d2 := hB0.cell 2
  simp at d1 d2
  have d1' := World.block_lt_of_cell? W1 _ d1
  clear hW hB0 hB1 hB2 hK1
  generalize hn : w.heap.size = N at *
  have HN := Lib.hid hn
  have hNle : w.heap.size ≤ N := by rw [hn]; exact Nat.le_refl _
  clear hn
  go_cut [] (fun wx => BoxRel w N (badN bad N) #[.int .i64 st.lim, .slice A1 st.back.length c1, .string st.now, .slice A2 st.forth.length c2, .int .i64 st.op] 3 #[.int .i64 3, .string s, .int .i64 g] #[.int .i64 0, .slice none 0 0, .string ⟨#[]⟩, .slice none 0 0, .int .i64 0] (st.forth ++ [st.now]) wx)
  case first =>
    have hreads : Hid (∀ w2 : World, Keep (fun _ => False) W1 w2 → ReadsAs w2 A2 (st.forth.map Value.string)) := fun w2 hk => HS1.out.reads.keep hk (fun _ _ _ h => h)
    have g1 := Fresh.made W1 9 (Nat.le_refl W1.heap.size)
    have G1 : Hid (Fresh (W1.alloc (.cells #[] 9)).drew W1.heap.size 9 (some ⟨W1.heap.size, 0, none⟩) 0 0 []) := g1
    have G2 : Hid (Fresh ((W1.alloc (.cells #[] 9)).alloc (.cells #[.string st.now] 9)).drew W1.heap.size 9 (some ⟨W1.heap.size, 0, none⟩) 0 0 []) := g1.alloc _
    have G3 : Hid (Fresh ((W1.alloc (.cells #[.string st.now] 9)).alloc (.cells #[] 9)).drew W1.heap.size 9 (some ⟨W1.heap.size + 1, 0, none⟩) 0 0 []) := by
      have := Fresh.made (W1.alloc (.cells #[.string st.now] 9)) 9 (base := W1.heap.size) (by simp)
      rw [World.size_alloc] at this
      exact this
    have K1 := Lib.hid (((Keep.refl (fun _ => False) W1).alloc (.cells #[] 9)).drew)
    have K2 := Lib.hid ((((Keep.refl (fun _ => False) W1).alloc (.cells #[] 9)).alloc (.cells #[.string st.now] 9)).drew)
    have K3 := Lib.hid ((((Keep.refl (fun _ => False) W1).alloc (.cells #[.string st.now] 9)).alloc (.cells #[] 9)).drew)
    have b2 := Blk.new (W1.alloc (.cells #[] 9)) 9 #[.string st.now]
    rw [World.size_alloc] at b2
    have B2 : Hid (Blk ((W1.alloc (.cells #[] 9)).alloc (.cells #[.string st.now] 9)).drew (W1.heap.size + 1) 9 #[.string st.now]) := b2
    have B3 : Hid (Blk ((W1.alloc (.cells #[.string st.now] 9)).alloc (.cells #[] 9)).drew W1.heap.size 9 #[.string st.now]) := (Blk.new W1 9 #[.string st.now]).alloc (.cells #[] 9)
    clear g1 b2
    go_region_law ((first
      | (refine step_append_onto _ (by rfl) (.tmp 75) (.tmp 77) _ (by rfl) W1.heap.size 9 i0 (.string ⟨#[]⟩) 16 Try.underlying22 hi hz0 hz1 hz2 rfl (some ⟨W1.heap.size, 0, none⟩) 0 0 [] (by rfl) ?_ A2 st.forth.length c2 (st.forth.map Value.string) (by rfl) ?_ ?_ ?_ (sl_oneCell _) ?_ ?_ ?_ ?_; exact G1.out; exact List.length_map _; exact hreads.out _ K1.out; exact fun h => ⟨(HS1.out.nil h).1, (HS1.out.nil h).2⟩; omega; omega; exact K1.out.size; intro A' c' w2 hF hK; rw [Nat.zero_add, List.nil_append] at hF; have hKW := keep_past K1.out hK (by omega); have q1 := (hKW.cell (p := ⟨N, 3, none⟩) d1' (fun h => h)).trans d1; have q2 := (hKW.cell (p := ⟨N, 2, none⟩) d1' (fun h => h)).trans d2; clear hK)
      | (refine step_append_onto _ (by rfl) (.tmp 75) (.tmp 77) _ (by rfl) W1.heap.size 9 i0 (.string ⟨#[]⟩) 16 Try.underlying22 hi hz0 hz1 hz2 rfl (some ⟨W1.heap.size, 0, none⟩) 0 0 [] (by rfl) ?_ A2 st.forth.length c2 (st.forth.map Value.string) (by rfl) ?_ ?_ ?_ (sl_oneCell _) ?_ ?_ ?_ ?_; exact G2.out; exact List.length_map _; exact hreads.out _ K2.out; exact fun h => ⟨(HS1.out.nil h).1, (HS1.out.nil h).2⟩; omega; omega; exact K2.out.size; intro A' c' w2 hF hK; rw [Nat.zero_add, List.nil_append] at hF; have hKW := keep_past K2.out hK (by omega); have q1 := (hKW.cell (p := ⟨N, 3, none⟩) d1' (fun h => h)).trans d1; have q2 := (hKW.cell (p := ⟨N, 2, none⟩) d1' (fun h => h)).trans d2; have hR2 := reads_one B2.out hK (ne_of_addr (by omega)); clear hK)
      | (refine step_append_onto _ (by rfl) (.tmp 75) (.tmp 77) _ (by rfl) W1.heap.size 9 i0 (.string ⟨#[]⟩) 16 Try.underlying22 hi hz0 hz1 hz2 rfl (some ⟨W1.heap.size + 1, 0, none⟩) 0 0 [] (by rfl) ?_ A2 st.forth.length c2 (st.forth.map Value.string) (by rfl) ?_ ?_ ?_ (sl_oneCell _) ?_ ?_ ?_ ?_; exact G3.out; exact List.length_map _; exact hreads.out _ K3.out; exact fun h => ⟨(HS1.out.nil h).1, (HS1.out.nil h).2⟩; omega; omega; exact K3.out.size; intro A' c' w2 hF hK; rw [Nat.zero_add, List.nil_append] at hF; have hKW := keep_past K3.out hK (by omega); have q1 := (hKW.cell (p := ⟨N, 3, none⟩) d1' (fun h => h)).trans d1; have q2 := (hKW.cell (p := ⟨N, 2, none⟩) d1' (fun h => h)).trans d2; have hR2 := reads_one B3.out hK (ne_of_addr (by omega)); clear hK)
      | (refine step_append_onto _ (by rfl) (.tmp 78) (.tmp 81) _ (by rfl) W1.heap.size 9 i0 (.string ⟨#[]⟩) 16 Try.underlying22 hi hz0 hz1 hz2 rfl A' st.forth.length c' (st.forth.map Value.string) (by rfl) ?_ (some ⟨W1.heap.size + 1, 0, none⟩) 1 1 [.string st.now] (by rfl) rfl ?_ ?_ ?_ ?_ ?_ ?_ ?_; exact hF; exact hR2; exact fun h => nomatch h; exact one_oneCell _; omega; omega; exact hKW.size; intro A3 c3 w3 hF3 hK3; have hKX := keep_past2 hKW hF hK3; have hfz := (HB0.out.keep hKX (fun h => h)).frozen 3; have q3 := (hKX.cell (p := ⟨N, 3, none⟩) d1' (fun h => h)).trans d1; clear hK3)
      | (refine step_append_onto _ (by rfl) (.tmp 78) (.tmp 81) _ (by rfl) W1.heap.size 9 i0 (.string ⟨#[]⟩) 16 Try.underlying22 hi hz0 hz1 hz2 rfl A' st.forth.length c' (st.forth.map Value.string) (by rfl) ?_ (some ⟨W1.heap.size, 0, none⟩) 1 1 [.string st.now] (by rfl) rfl ?_ ?_ ?_ ?_ ?_ ?_ ?_; exact hF; exact hR2; exact fun h => nomatch h; exact one_oneCell _; omega; omega; exact hKW.size; intro A3 c3 w3 hF3 hK3; have hKX := keep_past2 hKW hF hK3; have hfz := (HB0.out.keep hKX (fun h => h)).frozen 3; have q3 := (hKX.cell (p := ⟨N, 3, none⟩) d1' (fun h => h)).trans d1; clear hK3)
      | (refine step_append_onto _ (by rfl) (.tmp 78) (.tmp 81) _ (by rfl) W1.heap.size 9 i0 (.string ⟨#[]⟩) 16 Try.underlying22 hi hz0 hz1 hz2 rfl A' st.forth.length c' (st.forth.map Value.string) (by rfl) ?_ (some ⟨w2.heap.size, 0, none⟩) 1 1 [.string st.now] (by rfl) rfl ?_ ?_ ?_ ?_ ?_ ?_ ?_; exact hF.alloc _; exact reads_one (Blk.new w2 9 #[.string st.now]) (Keep.refl (fun _ => False) _) (fun h => h); exact fun h => nomatch h; exact one_oneCell _; omega; omega; exact (hKW.alloc (.cells #[.string st.now] 9)).size; intro A3 c3 w3 hF3 hK3; have hKX := keep_past2 (hKW.alloc (.cells #[.string st.now] 9)) (hF.alloc _) hK3; have hfz := (HB0.out.keep hKX (fun h => h)).frozen 3; have q3 := (hKX.cell (p := ⟨N, 3, none⟩) d1' (fun h => h)).trans d1; clear hK3)
      | fail))
    all_goals
      have hend := boxRel_end (j := 3) HN.out hsz HB0.out HB1.out HB2.out HK1.out hF3 hKX (fun k hk => badN_new HBAD.out hsz hk)
      go_wp2_with fail
      go_meet
      exact hend
  case rest =>
    obtain ⟨A3, c3, hE0, hE1, hE2, hE3, hEK⟩ := hcut
    clear HS1 HB0 HB1 HB2 HK1 d1 d2 d1' hsz
    have r0 := hE0.cell 0
    have r1 := hE0.cell 1
    have r2 := hE0.cell 2
    have r3 := hE0.cell 3
    have r4 := hE0.cell 4
    have p0 := hE1.cell 0
    have p1 := hE1.cell 1
    have p2 := hE1.cell 2
    have t0 := hE2.cell 0
    have t1 := hE2.cell 1
    have t2 := hE2.cell 2
    have t3 := hE2.cell 3
    have t4 := hE2.cell 4
    simp at r0 r1 r2 r3 r4 p0 p1 p2 t0 t1 t2 t3 t4
    have z0 := hE2.frozen 0
    have z1 := hE2.frozen 1
    have z2 := hE2.frozen 2
    have z3 := hE2.frozen 3
    have z4 := hE2.frozen 4
    have hcap := hE3.cap
    rw [List.length_append, List.length_singleton] at hcap
    obtain ⟨b3, o3, rfl⟩ := hE3.at_ (by simp)
    have f1 := hE0.frozen 1
    have f2 := hE0.frozen 2
    have f3 := hE0.frozen 3
    have f4 := hE0.frozen 4
    have HE0 := Lib.hid hE0
    have HE1 := Lib.hid hE1
    have HE2 := Lib.hid hE2
    have HE3 := Lib.hid hE3
    have HEK := Lib.hid hEK
    clear hE0 hE1 hE2 hE3 hEK
    have HP := Lib.hid (H1.out.keep HEK.out (fun _ _ h => h.elim))
    obtain ⟨bp, op_, hA⟩ := HP.out.at_ (by omega)
    subst hA
    have hcp := HP.out.cap
    have hpop := HP.out.last HNE.out
    go_wp2_with fail
    refine bodyPost_ret (v := .tuple #[.agg #[.int .i64 st.lim, .slice (some ⟨bp, op_, none⟩) (st.back.length - 1) c1, .string (st.back.getLast?.getD ByteArray.empty), .slice (some ⟨b3, o3, none⟩) (st.forth.length + 1) c3, .int .i64 0], .bool true]) (by simp [results, Try.results21, go_sem, t0, t1, t2, t3, t4]) rfl ?_
    refine ref_end rfl ?_ rfl ?_ rfl (SlAt.keep (H1.out.dropLast HNE.out) (S := fun _ => False) (by (repeat (refine Keep.setCell ?_ (fun h => by dsimp only at h; omega) _)); exact HEK.out) (fun _ _ h => h.elim)) (SlAt.past (N := N) (w := wc) HE3.out (by (repeat (refine Keep.setCell ?_ (fun _ => by dsimp only; omega) _)); exact Keep.refl _ _)) (by (repeat (refine Keep.setCell ?_ (fun h => by dsimp only at h; omega) _)); exact HEK.out)
    · dsimp only; rw [List.length_dropLast]
    · dsimp only; rw [List.length_append, List.length_singleton]

end Go.Proofs.Ytbaggkokoablbaa
