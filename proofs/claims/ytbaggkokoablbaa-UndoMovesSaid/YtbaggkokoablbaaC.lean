/- Clone, Copy, Move, Break of a log of texts. -/
import Derived.Test.YtbaggkokoablbaaS
import Derived.Test.YtbaggkokoablbaaB3
import Derived.Deep.RegionHeld3
namespace Go.Proofs.Ytbaggkokoablbaa
open Go.RowKit Go.BigFrame

def ClonePost (w : World) (n : Nat) (xs : List Value) (e : Ending) (w' : World) : Prop :=
  ∃ g c', e = .returned (.slice (some ⟨g, 0, none⟩) n c') ∧ Fresh w' w.heap.size 9 (some ⟨g, 0, none⟩) n c' xs ∧ Keep (fun _ => False) w w'

theorem clone_end {w w1 w2 : World} {n : Nat} {xs : List Value} {A : Option Addr} {c : Nat} {S : Nat → Prop} (hn : 0 < n) (h : Fresh w2 w.heap.size 9 A n c xs) (h1 : Keep (fun _ => False) w w1) (h2 : Keep S w1 w2) (hS : ∀ k, k < w.heap.size → ¬ S k) :
    ClonePost w n xs (.returned (.slice A n c)) w2 := by
  rcases h.2 with ⟨_, h0⟩ | ⟨g, cap, cur, hv, _⟩
  · omega
  · injection hv with hv1 hv2 hv3
    subst hv1
    exact ⟨g, c, rfl, h, h1.trans h2 (fun i hi hs => hS i hi hs)⟩

set_option maxHeartbeats 400000 in
theorem clone_s {r o n c : Nat} {w : World} {xs : List Value} (hn : 0 < n) (hn2 : n ≤ 1000) (hl : xs.length = n) (hr : ReadsAs w (some ⟨r, o, none⟩) xs) (h1 : ∀ u ∈ xs, u.oneCell' = true) :
    Calls Try.prog 32 #[.slice (some ⟨r, o, none⟩) n c] w (ClonePost w n xs) := by
  obtain ⟨i0, hi, hz0, hz1, hz2⟩ := info_parts info_s
  have hne := fun (w : World) => Lib.run_eql_slice_nil (P := Try.prog) w 22 9 (some ⟨r, o, none⟩) n c 0 0 Try.underlying22
  have HR : Hid (ReadsAs (w.alloc (.cells #[] 9)) (some ⟨r, o, none⟩) xs) := hr.keep ((Keep.refl (fun _ => False) w).alloc _) (fun _ _ _ h => h)
  have HL := Lib.hid hl
  have HO := Lib.hid h1
  clear hl hr h1
  go_enter Try.func32, Try.ntmps32
  go_wp2_with (at_builtin; go_must (refine wpList_append_onto1 _ rfl _ _ _ rfl w.heap.size 9 i0 (.string ⟨#[]⟩) 16 Try.underlying22 hi hz0 hz1 hz2 rfl (some ⟨w.heap.size, 0, none⟩) 0 0 [] rfl (Fresh.made w 9 (Nat.le_refl _)) (some ⟨r, o, none⟩) n c xs rfl HL.out HR.out (fun h => by cases h) HO.out (by omega) (by omega) (by simp) ?_))
  intro A' c' w2 hF hK
  have HF := Lib.hid hF
  have HK := Lib.hid hK
  clear hF hK
  go_wp2
  go_ret
  exact clone_end hn HF.out ((Keep.refl _ w).alloc _) HK.out (fun k hk h => by omega)

def CopyPost (w : World) (lim : Nat) (xs : List ByteArray) (at_ : Nat) (op : Int) (e : Ending) (w' : World) : Prop :=
  ∃ b r, e = .returned (.pointer (some ⟨b, 0, none⟩)) ∧ Log_s w' b r lim xs at_ op ∧ w.heap.size ≤ b ∧ w.heap.size ≤ r ∧ Keep (fun _ => False) w w'

theorem copy_end {w w2 : World} {lim at_ g c' : Nat} {xs : List ByteArray} {op : Int} (hlt : at_ < xs.length) (hF : Fresh w2 w.drew.heap.size 9 (some ⟨g, 0, none⟩) xs.length c' (xs.map Value.string)) (hK : Keep (fun _ => False) w.drew w2) :
    CopyPost w lim xs at_ op (.returned (.pointer (some ⟨w2.heap.size, 0, none⟩)))
      (w2.alloc (.cells #[.int .i64 lim, .slice (some ⟨g, 0, none⟩) xs.length c', .int .i64 at_, .int .i64 op] 56)) := by
  rcases hF.2 with ⟨hv, _⟩ | ⟨g', cap, cur, hv, hg, hh, hnc, hcm, hsz, htk⟩
  · cases hv
  · injection hv with hv1 hv2 hv3
    injection hv1 with hv1
    injection hv1 with hv1
    subst hv1 hv3
    have hB : Blk w2 g 9 cur := hh
    refine ⟨_, g, rfl, ⟨0, c', cur, Blk.new _ _ _, hB.alloc _, hnc, hlt, ?_⟩, hK.size, hg, (((Keep.refl (fun _ => False) w).drew).trans hK (fun _ _ h => h)).alloc _⟩
    intro i x hi
    rw [Nat.zero_add]
    have hu : (xs.map Value.string)[i]? = some (.string x) := by rw [List.getElem?_map, hi]; rfl
    rw [← htk, List.getElem?_take] at hu
    split at hu
    · simpa using hu
    · cases hu

set_option maxHeartbeats 1000000 in
theorem copy_s {b r lim at_ : Nat} {xs : List ByteArray} {op : Int} {w : World} (h : Log_s w b r lim xs at_ op) (hn : xs.length ≤ 1000) :
    Calls Try.prog 24 #[.pointer (some ⟨b, 0, none⟩)] w (CopyPost w lim xs at_ op) := by
  have HLog := Lib.hid h
  obtain ⟨o, c, hb, hc, hlt, hcell⟩ := h.open_
  have h0 := hb.cell 0
  have h1 := hb.cell 1
  have h2 := hb.cell 2
  have h3 := hb.cell 3
  simp at h0 h1 h2 h3
  have hblt := hb.lt
  have HC : Hid (ReadsAs w (some ⟨r, o, none⟩) (xs.map Value.string)) := by
    intro i u hu
    rw [List.getElem?_map] at hu
    cases hx : xs[i]? with
    | none => rw [hx] at hu; cases hu
    | some x =>
      rw [hx] at hu
      cases hu
      exact ⟨r, o, rfl, hcell i x hx⟩
  have HB := Lib.hid hb
  clear hcell hb h
  go_enter Try.func24, Try.ntmps24
  go_wp2_with fail
  go_region_held3 (fun w' => w'.cell? ⟨b, 0, none⟩ = some (.int .i64 lim) ∧ w'.cell? ⟨b, 1, none⟩ = some (.slice (some ⟨r, o, none⟩) xs.length c) ∧ w'.cell? ⟨b, 2, none⟩ = some (.int .i64 at_) ∧ w'.cell? ⟨b, 3, none⟩ = some (.int .i64 op))
    (first | go_keep | exact ⟨(hK.cell (p := ⟨b, 0, none⟩) hblt (fun h => h)).trans h0, (hK.cell (p := ⟨b, 1, none⟩) hblt (fun h => h)).trans h1, (hK.cell (p := ⟨b, 2, none⟩) hblt (fun h => h)).trans h2, (hK.cell (p := ⟨b, 3, none⟩) hblt (fun h => h)).trans h3⟩)
    ((go_at_call 32; refine (clone_s (xs := xs.map Value.string) (by omega) hn (by simp) (by exact HC.out) (by intro u hu; obtain ⟨x, _, rfl⟩ := List.mem_map.1 hu; rfl)).mono ?_; rintro e w2 ⟨g, c', rfl, hF, hK⟩))
  go_wp2
  go_ret
  exact copy_end hlt hF hK

theorem LogAt.put {α : Type} {T E : TypeId} {V : α → Value} {w : World} {b r lim : Nat} {xs : List α} {at_ : Nat} {op : Int} {o n c : Nat} {u : Value} (h : LogAt T E V w b r lim xs at_ op)
    (h1 : w.cell? ⟨b, 1, none⟩ = some (.slice (some ⟨r, o, none⟩) n c)) (hTE : T ≠ E) (s : α) (hu : u = V s) : LogAt T E V (w.setCell ⟨r, o + at_, none⟩ u) b r lim (xs.set at_ s) at_ op := by
  subst hu
  obtain ⟨o', c', cur, hb, hr, hl1, hl2, hl3⟩ := h
  have e := hb.cell 1
  rw [h1] at e
  simp at e
  obtain ⟨rfl, rfl, rfl⟩ := e
  refine ⟨o, c, cur.setIfInBounds (o + at_) (V s), ?_, hr.set_ _ _, ?_, ?_, ?_⟩
  · rw [List.length_set]; exact hb.far (p := ⟨r, o + at_, none⟩) (hb.ne_ hr hTE) _
  · rw [List.length_set]; exact hl1
  · rw [List.length_set]; exact hl2
  · intro i x hi
    have hcur := hl3 at_ _ (List.getElem?_eq_getElem hl2)
    rw [List.getElem?_set] at hi
    rw [Array.getElem?_setIfInBounds]
    split at hi
    · next he =>
      subst he
      cases hi
      rw [if_pos rfl, if_pos (Array.getElem?_eq_some_iff.1 hcur).1]
    · next he =>
      rw [if_neg (by omega)]
      exact hl3 i x hi

theorem LogAt.opened {α : Type} {T E : TypeId} {V : α → Value} {w : World} {b r lim : Nat} {xs : List α} {at_ : Nat} {op : Int} (h : LogAt T E V w b r lim xs at_ op) (hTE : T ≠ E) (op' : Int) : LogAt T E V (w.setCell ⟨b, 3, none⟩ (.int .i64 op')) b r lim xs at_ op' := by
  obtain ⟨o, c, cur, hb, hr, h1, h2, h3⟩ := h
  exact ⟨o, c, cur, hb.set_ 3 _, hr.far (p := ⟨b, 3, none⟩) (fun e => hb.ne_ hr hTE e.symm) _, h1, h2, h3⟩

theorem LogAt.row {α : Type} {T E : TypeId} {V : α → Value} {w : World} {b r lim : Nat} {xs : List α} {at_ : Nat} {op : Int} (h : LogAt T E V w b r lim xs at_ op) (i : Nat) : w.frozen? ⟨r, i, none⟩ = false := by
  obtain ⟨o, c, cur, hb, hr, h1, h2, h3⟩ := h
  exact hr.frozen i

set_option maxHeartbeats 400000 in
theorem move_s {b r lim at_ : Nat} {xs : List ByteArray} {op : Int} {w : World} (s : ByteArray) (h : Log_s w b r lim xs at_ op) (_hn : xs.length ≤ 1000) :
    Calls Try.prog 27 #[.pointer (some ⟨b, 0, none⟩), .string s] w fun e w' => e = .returned (.tuple #[]) ∧ Log_s w' b r lim (xs.set at_ s) at_ op ∧ Keep (· = r) w w' := by
  have H := Lib.hid h
  obtain ⟨o, c, hb, hc, hlt, hcell⟩ := h.open_
  have hv := hcell at_ _ (List.getElem?_eq_getElem hlt)
  have hf := h.row (o + at_)
  have h1 := hb.cell 1
  have h2 := hb.cell 2
  simp at h1 h2
  have H1 := Lib.hid h1
  clear hb hcell h
  go_enter Try.func27, Try.ntmps27
  go_wp2_with fail
  refine region_tail 10 (by kernel_rfl) (by kernel_rfl) ?_
  simp only [List.take_succ_cons, List.take_zero, List.drop_succ_cons, List.drop_zero]
  repeat (go_big_quiet_step (fail))
  refine wpQuiet_nil ?_
  go_wp2
  go_end0
  exact ⟨rfl, (H.out.put H1.out (by decide) s rfl), ((Keep.refl (· = r) w).setCell (p := ⟨r, o + at_, none⟩) (fun _ => rfl) _).drew⟩

set_option maxHeartbeats 400000 in
theorem break_s {b r lim at_ : Nat} {xs : List ByteArray} {op : Int} {w : World} (h : Log_s w b r lim xs at_ op) :
    Calls Try.prog 31 #[.pointer (some ⟨b, 0, none⟩)] w fun e w' => e = .returned (.tuple #[]) ∧ Log_s w' b r lim xs at_ 0 ∧ Keep (· = b) w w' := by
  have H := Lib.hid h
  obtain ⟨o, c, hb, hc, hlt, hcell⟩ := h.open_
  have h3 := hb.cell 3
  have f3 := hb.frozen 3
  simp at h3
  clear hb hcell h
  go_enter Try.func31, Try.ntmps31
  go_wp2
  go_end0
  exact ⟨rfl, H.out.opened (by decide) 0, (Keep.refl (· = b) w).setCell (p := ⟨b, 3, none⟩) (fun _ => rfl) _⟩
end Go.Proofs.Ytbaggkokoablbaa
