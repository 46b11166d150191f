/- frame.Each: what it gives. -/
import Derived.Test.YtopdedhdfaomfaaNx
import Derived.Test.YtopdedhdfaomfaaR
namespace Go.Proofs.Ytopdedhdfaomfaa
open Go.RowKit Go.BigFrame Go.Shelf
attribute [local go_sem] Oper.semAt_some
/-- What a round is handed: where a frame begins, and its payload. -/
structure Fr where
  at_ : Nat
  A : Option Addr
  c : Nat
  p : List Nat
abbrev encF (x : Fr) : Array Value := #[.int .i64 x.at_, .slice x.A x.p.length x.c]
def FrOk (b : List Nat) (base : Nat) (pre : List Fr) (x : Fr) (W : World) : Prop :=
  Came b (pre.map (·.p)) ∧ x.at_ = ends (pre.map (·.p)) ∧ nextE (b.drop x.at_) = 0 ∧ x.p = payload (b.drop x.at_) ∧ Fresh W base 5 x.A x.p.length x.c (x.p.map bv) ∧ (∀ y ∈ x.p, y < 256)
theorem each_does (A : Option Addr) (n c : Nat) (w : World) : Calls Try.prog 17 #[.slice A n c] w fun e w' => e = .returned (.func (.func 26) #[] #[.pointer (some ⟨w.heap.size, 0, none⟩)]) ∧ w' = w.alloc (.cells #[.slice A n c] 23) := by
  go_enter Try.func17, Try.ntmps17
  go_wp2_with fail
  go_ret
  exact ⟨rfl, rfl⟩
theorem next_at (A : Option Addr) (c n : Nat) (b : List Nat) (w : World) (hn : b.length = n) (hb : BytesAt w A b) (hc : n ≤ c) (hcm : c ≤ 9223372036854775807) (hl : n ≤ 100000) : Calls Try.prog 14 #[.slice A n c] w (NextPost w b) := by
  subst hn
  exact next_does A c b w hb hc hcm hl
theorem BytesAt.keepS {w w' : World} {A : Option Addr} {b : List Nat} {S : Nat → Prop} (h : BytesAt w A b) (hk : Keep S w w') (hs : ∀ g o, A = some ⟨g, o, none⟩ → ¬ S g) : BytesAt w' A b := ⟨h.1.keep hk hs, h.2⟩
theorem BytesAt.place {w : World} {A : Option Addr} {b : List Nat} (h : BytesAt w A b) (hb : b.length ≠ 0) : ∃ g o, A = some ⟨g, o, none⟩ ∧ g < w.heap.size := by
  obtain ⟨g, o, hA, hc, _⟩ := h.get (k := 0) (by omega)
  exact ⟨g, o, hA, World.block_lt_of_cell? w _ hc⟩
/-- The slice that 'b[k:]' is. -/
theorem cut_at {A : Option Addr} {k : Nat} {b : List Nat} {W : World} (h : BytesAt W A b) : BytesAt W (A.map (fun x => x.add k)) (b.drop k) := by
  by_cases hb : b.length = 0
  · have : b = [] := List.eq_nil_of_length_eq_zero hb
    subst this
    rw [List.drop_nil]
    exact BytesAt.empty _ _
  · obtain ⟨g, o, rfl, _⟩ := h.place hb
    simp only [Option.map_some, add_off]
    exact BytesAt.drop h k
theorem cut_end {A : Option Addr} {k : Nat} {b : List Nat} {W : World} (hk : b.length ≤ k) : BytesAt W A (b.drop k) := by
  rw [List.drop_of_length_le hk]
  exact BytesAt.empty W A
set_option maxRecDepth 100000 in
set_option maxHeartbeats 4000000 in
theorem each1_gives (A : Option Addr) (c : Nat) (b : List Nat) (w : World) (Bn base : Nat) (T : Nat → Prop) (hb : BytesAt w A b) (hc : b.length ≤ c) (hcm : c ≤ 9223372036854775807)
    (hl : b.length ≤ 100000) (hB : Blk w Bn 23 #[.slice A b.length c]) (hT : ¬ T Bn) (hTA : ∀ g o, A = some ⟨g, o, none⟩ → b.length ≠ 0 → g < w.heap.size ∧ ¬ T g) (hbase : base ≤ w.heap.size) :
    Gives Try.prog 26 #[.pointer (some ⟨Bn, 0, none⟩)] encF T (FrOk b base) (fun xs => xs.map (·.p) = scans b) (fun xs => Came b (xs.map (·.p))) w := by
  intro l J Jx W hwl hlW hkW hJ hJx hY h0
  have hBW : Blk W Bn 23 #[.slice A b.length c] := hB.keep hkW (fun h => h)
  have hbW : BytesAt W A b := hb.keep hkW
  have hBn := hB.lt
  have hbs : base ≤ W.heap.size := Nat.le_trans hbase hkW.size
  clear hB hb hkW
  refine (callsIn_wide (n := 1)).1 ?_
  refine callsIn_of_wp Try.func26 rfl trivial ?_ rfl
  simp only [Try.ntmps26, List.size_toArray, List.length_cons, List.length_nil, Nat.reduceAdd, Nat.reduceSub, Array.replicate_succ, Array.replicate_zero, List.push_toArray, List.append_toArray, List.nil_append, List.cons_append]
  have h1 : 1 ≤ 1 := Nat.le_refl 1
  gi_wp2_with fail
  gi_loopw [3] (fun i wr => ∃ pre : List Fr, i = .int .i64 (ends (pre.map (·.p)) : Nat) ∧ Came b (pre.map (·.p)) ∧ J pre wr ∧ Keep (fun k => T k ∨ k = l) W wr) (fun i _ => b.length - (intOf i).toNat)
  case atStart => exact ⟨[], rfl, came_nil b, h0, Keep.refl _ W⟩
  case round =>
    obtain ⟨pre, rfl, hC, hJs, hK⟩ := hrel
    have HC := Lib.hid hC
    have hat := hC.2
    have HJS := Lib.hid hJs
    have HK := Lib.hid hK
    have hbox : wr.cell? ⟨Bn, 0, none⟩ = some (.slice A b.length c) := (hBW.keep hK (fun h => h.elim hT (fun h => by omega))).cell 0
    have HB : Hid (BytesAt wr A b) := by
      by_cases hb0 : b.length = 0
      · have : b = [] := List.eq_nil_of_length_eq_zero hb0
        rw [this]
        exact BytesAt.empty _ _
      · exact BytesAt.keepS hbW hK (fun g o h => fun h2 => h2.elim (hTA g o h hb0).2 (fun h3 => by have := (hTA g o h hb0).1; omega))
    clear hC hJs hK
    generalize hat2 : ends (pre.map (·.p)) = at_ at *
    have HAT := Lib.hid hat2
    clear hat2
    have hbA : BytesAt wr (if c = at_ then A else A.map (fun x => x.add at_)) (b.drop at_) := by
      split
      · next h => exact cut_end (by omega)
      · next h => exact cut_at HB
    by_cases hca : c = at_
    all_goals
      first | rw [if_pos hca] at hbA | rw [if_neg hca] at hbA
      have HBA := Lib.hid hbA
      clear hbA
      gi_wp2_with fail
      refine ⟨trivial, callsIn_wide.2 ((next_at _ _ _ (b.drop at_) _ (by rw [List.length_drop]) HBA (by omega) (by omega) (by omega)).mono ?_)⟩
      rintro e w2 ⟨hpost, hk⟩
      have HJ2 := Lib.hid (hJ _ _ _ HJS hk)
      have HK2 : Hid (Keep (fun k => T k ∨ k = l) W w2) := Keep.trans HK hk (fun _ _ h => h.elim)
      have hbs2 : base ≤ wr.heap.size := Nat.le_trans hbs (Keep.size HK)
      clear hk HBA hbox
      rcases hpost with ⟨hne, rfl⟩ | ⟨hz, A2, c2, rfl, hF⟩
      · have HD := Lib.hid (Came.done HC.out (by rw [HAT.out]; exact hne))
        generalize nextE (b.drop at_) = E at *
        have h2 : ((E : Int) != 0) = true := by rw [bne_iff_ne]; omega
        gi_wp2_with fail
        refine ⟨fun _ h => (by cases h), ?_⟩
        gi_wp2_with fail
        refine bodyPost_ret (results_none rfl _ _ _) rfl ?_
        exact ⟨⟨_, rfl⟩, .inl ⟨pre, HD.out.symm, HJ2⟩⟩
      · have hx : FrOk b base pre ⟨at_, A2, c2, payload (b.drop at_)⟩ w2 := ⟨HC, HAT.out.symm, hz, rfl, hF.base_le hbs2, fun y hy => (show BytesAt wr A b from HB).2 y (List.mem_of_mem_drop (List.mem_of_mem_drop (List.mem_of_mem_take hy)))⟩
        obtain ⟨fn, tmps, assign, body, hy, hR⟩ := hY pre _ w2 HJ2 hx
        have hnx := Came.next HC.out (by rw [HAT.out]; exact hz)
        rw [HAT.out] at hnx
        have hmany := nextE_zero hz
        have HNX := Lib.hid hnx
        have HMY := Lib.hid hmany.2.2.1
        have hm1000 := hmany.2.1
        rw [List.length_drop] at hmany
        have hm2 := hmany.2.2.1
        clear hnx hmany hx hF
        try dsimp only at hy
        generalize payload (b.drop at_) = p at *
        generalize many (b.drop at_) = m at *
        gi_wp2_with fail
        refine hR.mono ?_
        rintro e W3 ⟨hk3, ⟨rfl, hJ3⟩ | ⟨rfl, hJx3⟩⟩
        · gi_wp2_with fail
          refine ⟨⟨pre ++ [_], ?_, ?_, hJ3, Keep.trans HK2 hk3 (fun _ _ h => h)⟩, by simp [intOf]; omega⟩
          · rw [List.map_append]
            show _ = Value.int .i64 ((ends (pre.map (·.p) ++ [p]) : Nat) : Int)
            rw [HNX.out.2]
            push_cast
            rfl
          · rw [List.map_append]
            exact HNX.out.1
        · gi_wp2_with fail
          refine bodyPost_ret (results_none rfl _ _ _) rfl ?_
          refine ⟨⟨_, rfl⟩, .inr ⟨_, ?_, hJx3⟩⟩
          rw [List.map_append]
          exact HNX.out.1
end Go.Proofs.Ytopdedhdfaomfaa
