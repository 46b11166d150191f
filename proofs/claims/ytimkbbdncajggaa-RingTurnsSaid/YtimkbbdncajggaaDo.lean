/- does: one operation on a ring. -/
import Derived.Test.YtimkbbdncajggaaCS
namespace Go.Proofs.Ytimkbbdncajggaa
open Go.RowKit Go.BigFrame Go.Shelf
structure Op where
  kind : Int
  s : ByteArray
def stepR (lim : Nat) (L : List ByteArray) (at_ : Nat) (o : Op) : List ByteArray × Nat :=
  if o.kind = 0 then ((o.s :: L).take lim, 0)
  else if o.kind = 1 then (match L with
    | [] => ([], at_)
    | x :: L0 => ((x ++ o.s) :: L0, 0))
  else if o.kind = 2 then (L, turnN L.length at_)
  else if o.kind = 3 then (L, 0)
  else (L, at_)
theorem does1_does {w : World} {b : Nat} {k : Int} {s x : ByteArray} (hb : Blk w b 46 #[.int .i64 k, .string s]) (hl : x.size + s.size ≤ 9223372036854775807) :
    Calls Try.prog 34 #[.string x, .pointer (some ⟨b, 0, none⟩)] w fun e w' => e = .returned (.string (x ++ s)) ∧ w' = w := by
  have c1 : w.cell? ⟨b, 1, none⟩ = some (.string s) := hb.cell 1
  clear hb
  go_enter Try.func34, Try.ntmps34
  go_wp2_with fail
  go_ret
  exact ⟨rfl, rfl⟩
def DoesS (w : World) (B : Nat) (A : Option Addr) (lim : Nat) (r : List ByteArray × Nat) (e : Ending) (w' : World) : Prop :=
  ∃ B' A' c', e = .returned (.pointer (some ⟨B', 0, none⟩)) ∧ RingS w' B' A' c' lim r.1 r.2 ∧ Keep (Foot B A) w w' ∧ ∀ k, Foot B' A' k → Foot B A k ∨ w.heap.size ≤ k
set_option maxRecDepth 100000 in
set_option maxHeartbeats 4000000 in
theorem does_does {w : World} {B : Nat} {A : Option Addr} {c lim : Nat} {L : List ByteArray} {at_ : Nat} (o : Op) (h : RingS w B A c lim L at_) (hs : ∀ x ∈ L, x.size + o.s.size ≤ 9223372036854775807) :
    Calls Try.prog 22 #[.pointer (some ⟨B, 0, none⟩), .agg #[.int .i64 o.kind, .string o.s]] w (DoesS w B A lim (stepR lim L at_ o)) := by
  obtain ⟨k, s⟩ := o
  have hB := h.blk.lt
  have hlt := h.lt
  have hat := h.at_
  have HR := Lib.hid (h.keep ((Keep.refl (fun _ => False) w).alloc (.cells #[.int .i64 k, .string s] 46)) (fun _ _ h => h))
  have hb : Blk (w.alloc (.cells #[.int .i64 k, .string s] 46)) w.heap.size 46 #[.int .i64 k, .string s] := Blk.new w 46 _
  have hk0 : Keep (fun _ => False) w (w.alloc (.cells #[.int .i64 k, .string s] 46)) := (Keep.refl _ w).alloc _
  have hz0 : (w.alloc (.cells #[.int .i64 k, .string s] 46)).heap.size = w.heap.size + 1 := by simp
  have c0 : (w.alloc (.cells #[.int .i64 k, .string s] 46)).cell? ⟨w.heap.size, 0, none⟩ = some (.int .i64 k) := hb.cell 0
  have c1 : (w.alloc (.cells #[.int .i64 k, .string s] 46)).cell? ⟨w.heap.size, 1, none⟩ = some (.string s) := hb.cell 1
  have HB := Lib.hid hb
  have HS := Lib.hid hs
  have HLT := Lib.hid hlt
  have HK0 := Lib.hid hk0
  clear hb h hs hlt hk0
  unfold stepR
  dsimp only
  by_cases k0 : k = 0
  · subst k0
    rw [if_pos rfl]
    go_enter Try.func22, Try.ntmps22
    go_wp2_with fail
    refine (pushS_does HR s).mono ?_
    rintro e w4 ⟨⟨v, rfl⟩, A4, c4, hR4, hk4, hft4⟩
    have HR4 := Lib.hid hR4
    have HK4 : Hid (Keep (Foot B A) w w4) := Keep.trans (Keep.mono (T := Foot B A) HK0 (fun _ _ h => h.elim)) hk4 (fun _ _ h => h)
    have HFT4 : Hid (∀ k, Foot B A4 k → Foot B A k ∨ w.heap.size ≤ k) := fun k h => (hft4 k h).imp (fun h => h) (fun h => by omega)
    clear hR4 hk4 hft4 HR HB
    go_wp2_with fail
    refine bodyPost_ret (v := .pointer (some ⟨B, 0, none⟩)) (by simp [results, Try.results22, go_sem]) rfl ⟨B, A4, c4, rfl, HR4, HK4, HFT4⟩
  rw [if_neg k0]
  by_cases k1 : k = 1
  · subst k1
    rw [if_pos rfl]
    cases L with
    | nil =>
      go_enter Try.func22, Try.ntmps22
      go_wp2_with fail
      refine (changeS_empty _ HR).mono ?_
      rintro e w4 ⟨rfl, rfl⟩
      go_wp2_with fail
      refine bodyPost_ret (v := .pointer (some ⟨B, 0, none⟩)) (by simp [results, Try.results22, go_sem]) rfl ⟨B, A, c, rfl, HR, HK0.out.mono (fun _ _ h => h.elim), fun _ h => .inl h⟩
    | cons x L0 =>
      have hx := HS.out x (List.mem_cons_self ..)
      dsimp only at hx
      go_enter Try.func22, Try.ntmps22
      go_wp2_with fail
      refine (changeS_does (caps := #[.pointer (some ⟨w.heap.size, 0, none⟩)]) (y := x ++ s) HR (enters_of Try.func34 (by kernel_rfl) rfl) (fun w' hk => does1_does (HB.out.keep hk (by omega)) hx)).mono ?_
      rintro e w4 ⟨rfl, A4, c4, hR4, hk4, hft4⟩
      have HR4 := Lib.hid hR4
      have HK4 : Hid (Keep (Foot B A) w w4) := Keep.trans (Keep.mono (T := Foot B A) HK0 (fun _ _ h => h.elim)) hk4 (fun _ _ h => .inl h)
      have HFT4 : Hid (∀ k, Foot B A4 k → Foot B A k ∨ w.heap.size ≤ k) := fun k h => (hft4 k h).imp (fun h => .inl h) (fun h => by omega)
      clear hR4 hk4 hft4 HR HB
      go_wp2_with fail
      refine bodyPost_ret (v := .pointer (some ⟨B, 0, none⟩)) (by simp [results, Try.results22, go_sem]) rfl ⟨B, A4, c4, rfl, HR4, HK4, HFT4⟩
  rw [if_neg k1]
  by_cases k2 : k = 2
  · subst k2
    rw [if_pos rfl]
    go_enter Try.func22, Try.ntmps22
    go_wp2_with fail
    refine (turnS_does HR).mono ?_
    rintro e w4 ⟨rfl, hR4, hk4⟩
    have HR4 := Lib.hid hR4
    have HK4 : Hid (Keep (Foot B A) w w4) := Keep.trans (Keep.mono (T := Foot B A) HK0 (fun _ _ h => h.elim)) hk4 (fun _ _ h => .inl h)
    clear hR4 hk4 HR HB
    go_wp2_with fail
    refine bodyPost_ret (v := .pointer (some ⟨B, 0, none⟩)) (by simp [results, Try.results22, go_sem]) rfl ⟨B, A, c, rfl, HR4, HK4, fun _ h => .inl h⟩
  rw [if_neg k2]
  by_cases k3 : k = 3
  · subst k3
    rw [if_pos rfl]
    go_enter Try.func22, Try.ntmps22
    go_wp2_with fail
    refine (homeS_does HR).mono ?_
    rintro e w4 ⟨⟨v, rfl⟩, hR4, hk4⟩
    have HR4 := Lib.hid hR4
    have HK4 : Hid (Keep (Foot B A) w w4) := Keep.trans (Keep.mono (T := Foot B A) HK0 (fun _ _ h => h.elim)) hk4 (fun _ _ h => .inl h)
    clear hR4 hk4 HR HB
    go_wp2_with fail
    refine bodyPost_ret (v := .pointer (some ⟨B, 0, none⟩)) (by simp [results, Try.results22, go_sem]) rfl ⟨B, A, c, rfl, HR4, HK4, fun _ h => .inl h⟩
  rw [if_neg k3]
  by_cases k4 : k = 4
  · subst k4
    go_enter Try.func22, Try.ntmps22
    go_wp2_with fail
    refine (copyS_does HR).mono ?_
    rintro e w4 ⟨B2, A2, c2, rfl, hR4, hk4, hft4⟩
    have HR4 := Lib.hid (HR.out.keep hk4 (fun _ _ h => h))
    have HC4 := Lib.hid hR4
    have HK4 : Hid (Keep (fun _ => False) w w4) := Keep.trans (Keep.mono (T := fun _ => False) HK0 (fun _ _ h => h.elim)) hk4 (fun _ _ h => h)
    have HFT4 : Hid (∀ k, Foot B2 A2 k → w.heap.size + 1 ≤ k) := fun k h => by have := hft4 k h; omega
    have hs4 := hk4.size
    clear hR4 hk4 hft4 HR HB
    go_wp2_with fail
    refine (pushS_does HR4 ⟨#[110, 111, 110, 101]⟩).mono ?_
    rintro e w5 ⟨⟨v, rfl⟩, A5, c5, hR5, hk5, hft5⟩
    have HR5 := Lib.hid hR5
    have HC5 := Lib.hid (HC4.out.keep hk5 (fun k hf h => by have := HFT4.out k hf; have := HLT.out k h; omega))
    have HK5 : Hid (Keep (Foot B A) w w5) := Keep.trans (Keep.mono (T := Foot B A) HK4 (fun _ _ h => h.elim)) hk5 (fun _ _ h => h)
    have hcl := HC4.out.lt
    have HFB : Hid (∀ k, Foot B2 A2 k → k ≠ B) := fun k h e => by have := HFT4.out k h; omega
    clear hR5 hk5 hft5 HR4 HC4 HK4
    go_wp2_with fail
    refine (turnS_does HR5).mono ?_
    rintro e w6 ⟨rfl, hR6, hk6⟩
    have HC6 := Lib.hid (HC5.out.keep hk6 (fun k hf h => HFB.out k hf h))
    have HK6 : Hid (Keep (Foot B A) w w6) := Keep.trans HK5 hk6 (fun _ _ h => .inl h)
    clear hR6 hk6 HR5 HC5 HK5
    go_wp2_with fail
    refine bodyPost_ret (v := .pointer (some ⟨B2, 0, none⟩)) (by simp [results, Try.results22, go_sem]) rfl ⟨B2, A2, c2, rfl, HC6, HK6, fun k h => .inr (by have := HFT4.out k h; omega)⟩
  · go_enter Try.func22, Try.ntmps22
    go_wp2_with fail
    refine bodyPost_ret (v := .pointer (some ⟨B, 0, none⟩)) (by simp [results, Try.results22, go_sem]) rfl ⟨B, A, c, rfl, HR, HK0.out.mono (fun _ _ h => h.elim), fun _ h => .inl h⟩
end Go.Proofs.Ytimkbbdncajggaa
