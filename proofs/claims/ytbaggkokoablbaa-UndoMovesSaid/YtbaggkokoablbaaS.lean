/- The walks of the log's methods: what each call answers, and what it leaves. -/
import Derived.Test.YtbaggkokoablbaaRows
import Derived.Test.YtbaggkokoablbaaB2
import Derived.WalkKit
import Derived.WalkSpells
import Derived.WalkLawsBesides
import Derived.Deep.QuietTactic
import Derived.BigQuiet
namespace Go.Proofs.Ytbaggkokoablbaa
open Go.RowKit Go.BigFrame

theorem info_s : (Try.prog.info? 9).map (fun i => (i.zero, i.size, i.bytes)) = some (some (.string ⟨#[]⟩), 1, 16) := by kernel_rfl

abbrev Log_s (w : World) (b r lim : Nat) (xs : List ByteArray) (at_ : Nat) (op : Int) : Prop := LogAt 56 9 (Value.string) w b r lim xs at_ op

set_option maxHeartbeats 400000 in
theorem now_s {b r lim at_ : Nat} {xs : List ByteArray} {op : Int} {v : ByteArray} {w : World} (h : Log_s w b r lim xs at_ op) (_hn : xs.length ≤ 1000) (hx : xs[at_]? = some v) :
    Calls Try.prog 26 #[.pointer (some ⟨b, 0, none⟩)] w fun e w' => e = .returned (Value.string v) ∧ ∃ k, w' = w.drewN k := by
  obtain ⟨o, c, hb, hc, hlt, hcell⟩ := h.open_
  have hv := hcell _ _ hx
  have h1 := hb.cell 1
  have h2 := hb.cell 2
  simp at h1 h2
  clear hb hcell hx h
  go_enter Try.func26, Try.ntmps26
  go_wp2_with fail
  go_quiet (fail)
  go_wp2
  go_ret
  exact ⟨rfl, _, rfl⟩

set_option maxHeartbeats 400000 in
theorem len_s {b r lim at_ : Nat} {xs : List ByteArray} {op : Int} {w : World} (h : Log_s w b r lim xs at_ op) (hn : xs.length ≤ 1000) :
    Calls Try.prog 12 #[.pointer (some ⟨b, 0, none⟩)] w fun e w' => e = .returned (.tuple #[.int .i64 at_, .int .i64 ((xs.length : Int) - 1 - at_)]) ∧ ∃ k, w' = w.drewN k := by
  obtain ⟨o, c, hb, hc, hlt, hcell⟩ := h.open_
  have h1 := hb.cell 1
  have h2 := hb.cell 2
  simp at h1 h2
  clear hb hcell h
  go_enter Try.func12, Try.ntmps12
  go_wp2_with fail
  go_quiet (fail)
  go_wp2
  go_ret2
  exact ⟨rfl, _, rfl⟩


set_option maxHeartbeats 400000 in
theorem stepYes_s {b r lim at_ to : Nat} {xs : List ByteArray} {op k : Int} {v : ByteArray} {w : World} (h : Log_s w b r lim xs at_ op) (hn : xs.length ≤ 1000) (hk : (at_ : Int) + k = to) (hx : xs[to]? = some v) :
    Calls Try.prog 29 #[.pointer (some ⟨b, 0, none⟩), .int .i64 k] w fun e w' => e = .returned (.tuple #[Value.string v, .bool true]) ∧ Log_s w' b r lim xs to 0 ∧ Keep (· = b) w w' := by
  obtain ⟨o, c, hb, hc, hlt, hcell⟩ := h.open_
  have hto : to < xs.length := (List.getElem?_eq_some_iff.1 hx).1
  have h1 := hb.cell 1
  have h2 := hb.cell 2
  have h3 := hb.cell 3
  have f2 := hb.frozen 2
  have f3 := hb.frozen 3
  simp at h1 h2 h3
  have H := Lib.hid h
  have HX := Lib.hid hx
  have HK := Lib.hid hk
  have k1 : 0 ≤ (at_ : Int) + k := by omega
  have k2 : (at_ : Int) + k < xs.length := by omega
  have d1 : decide ((at_ : Int) + k < 0) = false := by simp; omega
  clear hb hcell hx h hk
  go_enter Try.func29, Try.ntmps29
  go_wp2_with fail
  go_quiet (fail)
  go_wp2_with fail
  rw [show (at_ : Int) + k = to from HK.out]
  have HL := (H.out.drewN nq).step (by decide) to hto
  refine (now_s (r := r) (lim := lim) (at_ := to) (xs := xs) (op := 0) HL hn HX.out).mono ?_
  have HL' := Lib.hid HL
  clear HL
  rintro e w' ⟨rfl, k', rfl⟩
  go_wp2
  go_ret2
  exact ⟨rfl, HL'.out, ((((Keep.refl (· = b) w).drewN _).setCell (p := ⟨b, 2, none⟩) (fun _ => rfl) _).setCell (p := ⟨b, 3, none⟩) (fun _ => rfl) _).drewN _⟩

set_option maxHeartbeats 400000 in
theorem stepNo_s {b r lim at_ : Nat} {xs : List ByteArray} {op k : Int} {v : ByteArray} {w : World} (h : Log_s w b r lim xs at_ op) (hn : xs.length ≤ 1000) (hk : (at_ : Int) + k < 0 ∨ xs.length ≤ (at_ : Int) + k) (hk1 : -1 ≤ k) (hk2 : k ≤ 1) (hx : xs[at_]? = some v) :
    Calls Try.prog 29 #[.pointer (some ⟨b, 0, none⟩), .int .i64 k] w fun e w' => e = .returned (.tuple #[Value.string v, .bool false]) ∧ ∃ k, w' = w.drewN k := by
  obtain ⟨o, c, hb, hc, hlt, hcell⟩ := h.open_
  have h1 := hb.cell 1
  have h2 := hb.cell 2
  simp at h1 h2
  have H := Lib.hid h
  have HX := Lib.hid hx
  clear hb hcell hx h
  by_cases hneg : (at_ : Int) + k < 0
  · have d1 : decide ((at_ : Int) + k < 0) = true := by simp; omega
    clear hk
    go_enter Try.func29, Try.ntmps29
    go_wp2_with fail
    go_quiet (fail)
    go_wp2_with fail
    refine (now_s (H.out.drewN _) hn HX.out).mono ?_
    rintro e w' ⟨rfl, k', rfl⟩
    go_wp2
    go_ret2
    exact ⟨rfl, _, rfl⟩
  · have hk' : (xs.length : Int) ≤ (at_ : Int) + k := by omega
    have d1 : decide ((at_ : Int) + k < 0) = false := by simp; omega
    clear hk
    go_enter Try.func29, Try.ntmps29
    go_wp2_with fail
    go_quiet (fail)
    go_wp2_with fail
    refine (now_s (H.out.drewN _) hn HX.out).mono ?_
    rintro e w' ⟨rfl, k', rfl⟩
    go_wp2
    go_ret2
    exact ⟨rfl, _, rfl⟩

set_option maxHeartbeats 400000 in
theorem undoYes_s {b r lim at_ : Nat} {xs : List ByteArray} {op : Int} {v : ByteArray} {w : World} (h : Log_s w b r lim xs (at_ + 1) op) (hn : xs.length ≤ 1000) (hx : xs[at_]? = some v) :
    Calls Try.prog 13 #[.pointer (some ⟨b, 0, none⟩)] w fun e w' => e = .returned (.tuple #[Value.string v, .bool true]) ∧ Log_s w' b r lim xs at_ 0 ∧ Keep (· = b) w w' := by
  have H := Lib.hid (stepYes_s (k := -1) (to := at_) h hn (by omega) hx)
  clear h hx
  go_enter Try.func13, Try.ntmps13
  go_wp2_with fail
  refine H.out.mono ?_
  rintro e w' ⟨rfl, HL, HK⟩
  have HL := Lib.hid HL
  have HK := Lib.hid HK
  go_wp2
  go_ret2
  exact ⟨rfl, HL.out, HK.out⟩

set_option maxHeartbeats 400000 in
theorem undoNo_s {b r lim : Nat} {xs : List ByteArray} {op : Int} {v : ByteArray} {w : World} (h : Log_s w b r lim xs 0 op) (hn : xs.length ≤ 1000) (hx : xs[0]? = some v) :
    Calls Try.prog 13 #[.pointer (some ⟨b, 0, none⟩)] w fun e w' => e = .returned (.tuple #[Value.string v, .bool false]) ∧ ∃ k, w' = w.drewN k := by
  have H := Lib.hid (stepNo_s (k := -1) h hn (by omega) (by omega) (by omega) hx)
  clear h hx
  go_enter Try.func13, Try.ntmps13
  go_wp2_with fail
  refine H.out.mono ?_
  rintro e w' ⟨rfl, k, rfl⟩
  go_wp2
  go_ret2
  exact ⟨rfl, _, rfl⟩

set_option maxHeartbeats 400000 in
theorem redoYes_s {b r lim at_ : Nat} {xs : List ByteArray} {op : Int} {v : ByteArray} {w : World} (h : Log_s w b r lim xs at_ op) (hn : xs.length ≤ 1000) (hx : xs[at_ + 1]? = some v) :
    Calls Try.prog 25 #[.pointer (some ⟨b, 0, none⟩)] w fun e w' => e = .returned (.tuple #[Value.string v, .bool true]) ∧ Log_s w' b r lim xs (at_ + 1) 0 ∧ Keep (· = b) w w' := by
  have H := Lib.hid (stepYes_s (k := 1) (to := at_ + 1) h hn (by omega) hx)
  clear h hx
  go_enter Try.func25, Try.ntmps25
  go_wp2_with fail
  refine H.out.mono ?_
  rintro e w' ⟨rfl, HL, HK⟩
  have HL := Lib.hid HL
  have HK := Lib.hid HK
  go_wp2
  go_ret2
  exact ⟨rfl, HL.out, HK.out⟩

set_option maxHeartbeats 400000 in
theorem redoNo_s {b r lim at_ : Nat} {xs : List ByteArray} {op : Int} {v : ByteArray} {w : World} (h : Log_s w b r lim xs at_ op) (hn : xs.length ≤ 1000) (hlast : xs.length = at_ + 1) (hx : xs[at_]? = some v) :
    Calls Try.prog 25 #[.pointer (some ⟨b, 0, none⟩)] w fun e w' => e = .returned (.tuple #[Value.string v, .bool false]) ∧ ∃ k, w' = w.drewN k := by
  have H := Lib.hid (stepNo_s (k := 1) h hn (by omega) (by omega) (by omega) hx)
  clear h hx hlast
  go_enter Try.func25, Try.ntmps25
  go_wp2_with fail
  refine H.out.mono ?_
  rintro e w' ⟨rfl, k, rfl⟩
  go_wp2
  go_ret2
  exact ⟨rfl, _, rfl⟩

set_option maxHeartbeats 400000 in
theorem new_s (first : ByteArray) (limit : Int) (w : World) :
    Calls Try.prog 10 #[Value.string first, .int .i64 limit] w (NewPost 56 9 (Value.string) w first limit) := by
  go_enter Try.func10, Try.ntmps10
  go_wp2
  all_goals
    go_ret
    exact newEnd _ _ (Value.string) w first limit _ (by omega)

set_option maxHeartbeats 400000 in
theorem doSame_s {b r lim at_ : Nat} {xs : List ByteArray} {op : Int} {s v : ByteArray} {w : World} (g : Int) (h : Log_s w b r lim xs at_ op) (hn : xs.length ≤ 1000) (hx : xs[at_]? = some v) (hs : (s.toList == v.toList) = true) :
    Calls Try.prog 11 #[.pointer (some ⟨b, 0, none⟩), Value.string s, .int .i64 g] w fun e w' => e = .returned (.bool false) ∧ ∃ k, w' = w.drewN k := by
  have H := Lib.hid (now_s h hn hx)
  clear h hx hn
  go_enter Try.func11, Try.ntmps11
  go_wp2_with fail
  refine H.out.mono ?_
  rintro e w' ⟨rfl, k, rfl⟩
  clear H
  go_wp2
  go_ret
  exact ⟨rfl, _, rfl⟩

set_option maxHeartbeats 800000 in
theorem doNewA_s {b r lim at_ : Nat} {xs : List ByteArray} {op g : Int} {s v : ByteArray} {w : World} (h : Log_s w b r lim xs at_ op) (hn : xs.length ≤ 1000) (hl1 : 1 ≤ lim) (hl2 : lim ≤ 256) (hx : xs[at_]? = some v) (hs : (s.toList == v.toList) = false) (hg : g ≤ 0) :
    Calls Try.prog 11 #[.pointer (some ⟨b, 0, none⟩), Value.string s, .int .i64 g] w (DoPost 56 9 (Value.string) w b lim ((xs.take (at_ + 1) ++ [s]).drop (at_ + 1 - lim)) (min (at_ + 1) lim) (max g 0)) := by
  have H := Lib.hid h
  have HN := Lib.hid (now_s h hn hx)
  obtain ⟨o, c, hb, hc, hlt, hcell⟩ := h.open_
  have h0 := hb.cell 0
  have h1 := hb.cell 1
  have h2 := hb.cell 2
  have h3 := hb.cell 3
  have f1 := hb.frozen 1
  simp at h0 h1 h2 h3
  have HC := Lib.hid hcell
  have HB := Lib.hid hb
  have hTL : (xs.take (at_ + 1)).length = at_ + 1 := by rw [List.length_take]; omega
  obtain ⟨ys, hys⟩ : ∃ ys, ys = (xs.take (at_ + 1)).map (Value.string) := ⟨_, rfl⟩
  have HYL : Hid (ys.length = at_ + 1) := by rw [hys, List.length_map]; exact hTL
  have HYC : Hid (∀ (j : Nat) (u : Value), ys[j]? = some u → w.cell? ⟨r, o + j, none⟩ = some u) := by
    intro j u hu
    rw [hys] at hu
    exact cells_take hcell hu
  have HTL := Lib.hid hTL
  have HYS := Lib.hid hys
  clear hcell hx hb h hTL hys
  obtain ⟨i0, hi, hz0, hz1, hz2⟩ := info_parts info_s
  go_enter Try.func11, Try.ntmps11
  go_wp2_with fail
  refine HN.out.mono ?_
  rintro e w' ⟨rfl, k, rfl⟩
  clear HN
  go_wp2_with (at_builtin; refine append_new1 _ rfl _ _ _ rfl 9 i0 (.string ⟨#[]⟩) 16 Try.underlying22 hi hz0 hz1 hz2 rfl r o (at_ + 1) (at_ + 1) ys rfl HYL.out ?h1 w.heap.size 1 (Value.string s) rfl ?h2 rfl (by omega) (by omega) (by omega) ?_)
  case h1 => exact fun j u hu => cell_alloc_some (w := w.drewN k) (HYC.out j u hu) _
  case h2 => exact (Blk.new (w.drewN k) 9 #[Value.string s]).cell 0
  intro g1 cap1 cur1 w1 hg1 hcap1 hB1 hcur1 hK1
  have HB1 := ((HB.out.drewN k).alloc _).keep hK1 (fun h => h)
  have k0 := HB1.cell 0
  have k1 := HB1.cell 1
  have k2 := HB1.cell 2
  have k3 := HB1.cell 3
  have e0 := HB1.frozen 0
  have e1 := HB1.frozen 1
  have e2 := HB1.frozen 2
  have e3 := HB1.frozen 3
  simp at k0 k1 k2 k3
  have HB1' := Lib.hid HB1
  have HB2 := Lib.hid hB1
  have HC1 := Lib.hid hcur1
  have HK := Lib.hid ((((Keep.refl (fun _ => False) w).drewN k).alloc _).trans hK1 (fun _ _ h => h))
  have hg1' : w.heap.size ≤ g1 := by omega
  clear HB1 hB1 hcur1 hK1 h0 h1 h2 h3 f1 HC hg1
  go_wp2
  refine region_tail 20 (by kernel_rfl) (by kernel_rfl) ?_
  simp only [List.take_succ_cons, List.take_zero, List.drop_succ_cons, List.drop_zero]
  repeat (go_big_quiet_step (fail))
  refine wpQuiet_nil ?_
  go_wp2
  all_goals
    go_ret
    refine doEnd (by decide) (to := at_ + 1) (by rw [List.length_append, HTL.out]; rfl) HB1'.out rfl HB2.out (by rw [List.map_append, ← HYS.out]; exact HC1.out) hcap1 hg1' HK.out _ ?_ ?_ ?_ ?_ ?_ <;> omega

set_option maxHeartbeats 800000 in
theorem doNewB_s {b r lim at_ : Nat} {xs : List ByteArray} {op g : Int} {s v : ByteArray} {w : World} (h : Log_s w b r lim xs at_ op) (hn : xs.length ≤ 1000) (hl1 : 1 ≤ lim) (hl2 : lim ≤ 256) (hx : xs[at_]? = some v) (hs : (s.toList == v.toList) = false) (hg : 0 < g) (ho : (g == op) = false) :
    Calls Try.prog 11 #[.pointer (some ⟨b, 0, none⟩), Value.string s, .int .i64 g] w (DoPost 56 9 (Value.string) w b lim ((xs.take (at_ + 1) ++ [s]).drop (at_ + 1 - lim)) (min (at_ + 1) lim) (max g 0)) := by
  have H := Lib.hid h
  have HN := Lib.hid (now_s h hn hx)
  obtain ⟨o, c, hb, hc, hlt, hcell⟩ := h.open_
  have h0 := hb.cell 0
  have h1 := hb.cell 1
  have h2 := hb.cell 2
  have h3 := hb.cell 3
  have f1 := hb.frozen 1
  simp at h0 h1 h2 h3
  have HC := Lib.hid hcell
  have HB := Lib.hid hb
  have hTL : (xs.take (at_ + 1)).length = at_ + 1 := by rw [List.length_take]; omega
  obtain ⟨ys, hys⟩ : ∃ ys, ys = (xs.take (at_ + 1)).map (Value.string) := ⟨_, rfl⟩
  have HYL : Hid (ys.length = at_ + 1) := by rw [hys, List.length_map]; exact hTL
  have HYC : Hid (∀ (j : Nat) (u : Value), ys[j]? = some u → w.cell? ⟨r, o + j, none⟩ = some u) := by
    intro j u hu
    rw [hys] at hu
    exact cells_take hcell hu
  have HTL := Lib.hid hTL
  have HYS := Lib.hid hys
  clear hcell hx hb h hTL hys
  obtain ⟨i0, hi, hz0, hz1, hz2⟩ := info_parts info_s
  go_enter Try.func11, Try.ntmps11
  go_wp2_with fail
  refine HN.out.mono ?_
  rintro e w' ⟨rfl, k, rfl⟩
  clear HN
  go_wp2_with (at_builtin; refine append_new1 _ rfl _ _ _ rfl 9 i0 (.string ⟨#[]⟩) 16 Try.underlying22 hi hz0 hz1 hz2 rfl r o (at_ + 1) (at_ + 1) ys rfl HYL.out ?h1 w.heap.size 1 (Value.string s) rfl ?h2 rfl (by omega) (by omega) (by omega) ?_)
  case h1 => exact fun j u hu => cell_alloc_some (w := w.drewN k) (HYC.out j u hu) _
  case h2 => exact (Blk.new (w.drewN k) 9 #[Value.string s]).cell 0
  intro g1 cap1 cur1 w1 hg1 hcap1 hB1 hcur1 hK1
  have HB1 := ((HB.out.drewN k).alloc _).keep hK1 (fun h => h)
  have k0 := HB1.cell 0
  have k1 := HB1.cell 1
  have k2 := HB1.cell 2
  have k3 := HB1.cell 3
  have e0 := HB1.frozen 0
  have e1 := HB1.frozen 1
  have e2 := HB1.frozen 2
  have e3 := HB1.frozen 3
  simp at k0 k1 k2 k3
  have HB1' := Lib.hid HB1
  have HB2 := Lib.hid hB1
  have HC1 := Lib.hid hcur1
  have HK := Lib.hid ((((Keep.refl (fun _ => False) w).drewN k).alloc _).trans hK1 (fun _ _ h => h))
  have hg1' : w.heap.size ≤ g1 := by omega
  clear HB1 hB1 hcur1 hK1 h0 h1 h2 h3 f1 HC hg1
  go_wp2
  refine region_tail 20 (by kernel_rfl) (by kernel_rfl) ?_
  simp only [List.take_succ_cons, List.take_zero, List.drop_succ_cons, List.drop_zero]
  repeat (go_big_quiet_step (fail))
  refine wpQuiet_nil ?_
  go_wp2
  all_goals
    go_ret
    refine doEnd (by decide) (to := at_ + 1) (by rw [List.length_append, HTL.out]; rfl) HB1'.out rfl HB2.out (by rw [List.map_append, ← HYS.out]; exact HC1.out) hcap1 hg1' HK.out _ ?_ ?_ ?_ ?_ ?_ <;> omega

set_option maxHeartbeats 800000 in
theorem doNewC_s {b r lim at_ : Nat} {xs : List ByteArray} {op g : Int} {s v : ByteArray} {w : World} (h : Log_s w b r lim xs at_ op) (hn : xs.length ≤ 1000) (hl1 : 1 ≤ lim) (hl2 : lim ≤ 256) (hx : xs[at_]? = some v) (hs : (s.toList == v.toList) = false) (hg : 0 < g) (ho : (g == op) = true) :
    Calls Try.prog 11 #[.pointer (some ⟨b, 0, none⟩), Value.string s, .int .i64 g] w (DoPost 56 9 (Value.string) w b lim ((xs.take (at_) ++ [s]).drop (at_ - lim)) (min (at_) lim) (max g 0)) := by
  have H := Lib.hid h
  have HN := Lib.hid (now_s h hn hx)
  obtain ⟨o, c, hb, hc, hlt, hcell⟩ := h.open_
  have h0 := hb.cell 0
  have h1 := hb.cell 1
  have h2 := hb.cell 2
  have h3 := hb.cell 3
  have f1 := hb.frozen 1
  simp at h0 h1 h2 h3
  have HC := Lib.hid hcell
  have HB := Lib.hid hb
  have hTL : (xs.take (at_)).length = at_ := by rw [List.length_take]; omega
  obtain ⟨ys, hys⟩ : ∃ ys, ys = (xs.take (at_)).map (Value.string) := ⟨_, rfl⟩
  have HYL : Hid (ys.length = at_) := by rw [hys, List.length_map]; exact hTL
  have HYC : Hid (∀ (j : Nat) (u : Value), ys[j]? = some u → w.cell? ⟨r, o + j, none⟩ = some u) := by
    intro j u hu
    rw [hys] at hu
    exact cells_take hcell hu
  have HTL := Lib.hid hTL
  have HYS := Lib.hid hys
  clear hcell hx hb h hTL hys
  obtain ⟨i0, hi, hz0, hz1, hz2⟩ := info_parts info_s
  go_enter Try.func11, Try.ntmps11
  go_wp2_with fail
  refine HN.out.mono ?_
  rintro e w' ⟨rfl, k, rfl⟩
  clear HN
  go_wp2_with (at_builtin; refine append_new1 _ rfl _ _ _ rfl 9 i0 (.string ⟨#[]⟩) 16 Try.underlying22 hi hz0 hz1 hz2 rfl r o (at_) (at_) ys rfl HYL.out ?h1 w.heap.size 1 (Value.string s) rfl ?h2 rfl (by omega) (by omega) (by omega) ?_)
  case h1 => exact fun j u hu => cell_alloc_some (w := w.drewN k) (HYC.out j u hu) _
  case h2 => exact (Blk.new (w.drewN k) 9 #[Value.string s]).cell 0
  intro g1 cap1 cur1 w1 hg1 hcap1 hB1 hcur1 hK1
  have HB1 := ((HB.out.drewN k).alloc _).keep hK1 (fun h => h)
  have k0 := HB1.cell 0
  have k1 := HB1.cell 1
  have k2 := HB1.cell 2
  have k3 := HB1.cell 3
  have e0 := HB1.frozen 0
  have e1 := HB1.frozen 1
  have e2 := HB1.frozen 2
  have e3 := HB1.frozen 3
  simp at k0 k1 k2 k3
  have HB1' := Lib.hid HB1
  have HB2 := Lib.hid hB1
  have HC1 := Lib.hid hcur1
  have HK := Lib.hid ((((Keep.refl (fun _ => False) w).drewN k).alloc _).trans hK1 (fun _ _ h => h))
  have hg1' : w.heap.size ≤ g1 := by omega
  clear HB1 hB1 hcur1 hK1 h0 h1 h2 h3 f1 HC hg1
  go_wp2
  refine region_tail 20 (by kernel_rfl) (by kernel_rfl) ?_
  simp only [List.take_succ_cons, List.take_zero, List.drop_succ_cons, List.drop_zero]
  repeat (go_big_quiet_step (fail))
  refine wpQuiet_nil ?_
  go_wp2
  all_goals
    go_ret
    refine doEnd (by decide) (to := at_) (by rw [List.length_append, HTL.out]; rfl) HB1'.out rfl HB2.out (by rw [List.map_append, ← HYS.out]; exact HC1.out) hcap1 hg1' HK.out _ ?_ ?_ ?_ ?_ ?_ <;> omega

end Go.Proofs.Ytbaggkokoablbaa
