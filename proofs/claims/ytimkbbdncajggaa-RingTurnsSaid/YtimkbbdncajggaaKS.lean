/- The ring's methods walked (S): New, Push, Len, Home, Clone, Copy. -/
import Derived.Test.YtimkbbdncajggaaM
import Derived.StillTailTactics
import Derived.Deep.QuietTactic
import Derived.BigQuiet
import Derived.Sort.AtCall
namespace Go.Proofs.Ytimkbbdncajggaa
open Go.RowKit Go.BigFrame
abbrev vals (x : ByteArray) : Value := Value.string x
theorem infoS_ : (Try.prog.info? 9).map (fun i => (i.zero, i.size, i.bytes)) = some (some (.string ⟨#[]⟩), 1, 16) := by kernel_rfl
theorem partsS : ∃ i, Try.prog.info? 9 = some i ∧ i.zero = some (.string ⟨#[]⟩) ∧ i.size = 1 ∧ i.bytes = 16 := by
  have h := infoS_
  cases hi : Try.prog.info? 9 with
  | none => simp [hi] at h
  | some i =>
    simp [hi] at h
    exact ⟨i, rfl, h.1, h.2.1, h.2.2⟩
/-- The rows' cells: the newest is the last. -/
def cellss (L : List (ByteArray)) : List Value := L.reverse.map vals
theorem cellss_get (L : List (ByteArray)) (k : Nat) (x : ByteArray) (h : L[k]? = some x) : (cellss L)[L.length - 1 - k]? = some (vals x) := by
  have hk := (List.getElem?_eq_some_iff.1 h).1
  unfold cellss
  rw [List.getElem?_map, List.getElem?_reverse (by omega), show L.length - 1 - (L.length - 1 - k) = k by omega, h]
  rfl
theorem cellss_one (L : List (ByteArray)) : ∀ u ∈ cellss L, u.oneCell' = true := by
  intro u hu
  obtain ⟨x, _, rfl⟩ := List.mem_map.1 hu
  rfl
structure RingS (w : World) (B : Nat) (A : Option Addr) (c lim : Nat) (L : List (ByteArray)) (at_ : Nat) : Prop where
  blk : Blk w B 65 #[.int .i64 (lim : Int), .slice A L.length c, .int .i64 (at_ : Int)]
  tail : Tail w 9 A L.length c (cellss L)
  one : 1 ≤ lim
  most : lim ≤ 64
  few : L.length ≤ lim
  at_ : at_ < L.length ∨ (L.length = 0 ∧ at_ = 0)
section
variable {w w' : World} {B : Nat} {A : Option Addr} {c lim : Nat} {L : List (ByteArray)} {at_ : Nat}
theorem RingS.keep {S : Nat → Prop} (h : RingS w B A c lim L at_) (hk : Keep S w w') (hs : ∀ k, Foot B A k → ¬ S k) : RingS w' B A c lim L at_ :=
  ⟨h.blk.keep hk (hs B (.inl rfl)), h.tail.keep hk (fun k o hA => hs k (.inr ⟨o, hA⟩)), h.one, h.most, h.few, h.at_⟩
theorem RingS.turns {B0 : Nat} (h : RingS w B A c lim L at_) (ht : Turns B0 w w') : RingS w' B A c lim L at_ :=
  ⟨Turns.blk ht h.blk, h.tail.turns ht, h.one, h.most, h.few, h.at_⟩
theorem RingS.lt (h : RingS w B A c lim L at_) : ∀ k, Foot B A k → k < w.heap.size := by
  rintro k (rfl | ⟨o, hA⟩)
  · exact h.blk.lt
  · exact h.tail.lt k o hA
theorem RingS.apart (h : RingS w B A c lim L at_) : ∀ o, A ≠ some ⟨B, o, none⟩ := by
  intro o hA
  obtain ⟨cur, hb⟩ := h.tail.blk B o hA
  exact Blk.ne_ hb h.blk (by decide) rfl
end
theorem newS_does (limit : Int) (w : World) : Calls Try.prog 14 #[.int .i64 limit] w fun e w' => e = .returned (.pointer (some ⟨w.heap.size, 0, none⟩)) ∧ RingS w' w.heap.size none 0 (clampN limit) [] 0 ∧ Keep (fun _ => False) w w' := by
  obtain ⟨h1, h2, h3⟩ := clampN_bd limit
  have hb : ∀ u, u = ((clampN limit : Nat) : Int) → RingS (w.alloc (.cells #[.int .i64 u, .slice none 0 0, .int .i64 0] 65)) w.heap.size none 0 (clampN limit) [] 0 := by
    rintro u rfl
    exact ⟨Blk.new w 65 _, Tail.nil _ _, h1, h2, by simp, .inr ⟨rfl, rfl⟩⟩
  rw [h3] at hb
  have HB := Lib.hid hb
  clear hb h1 h2 h3
  go_enter Try.func14, Try.ntmps14
  go_wp2_with fail
  all_goals go_ret
  all_goals exact ⟨rfl, HB.out _ (by omega), (Keep.refl _ w).alloc _⟩
theorem lenS_does {w : World} {B : Nat} {A : Option Addr} {c lim : Nat} {L : List (ByteArray)} {at_ : Nat} (h : RingS w B A c lim L at_) : Calls Try.prog 19 #[.pointer (some ⟨B, 0, none⟩)] w fun e w' => e = .returned (.int .i64 (L.length : Nat)) ∧ w' = w := by
  have c1 := h.blk.cell 1
  clear h
  go_enter Try.func19, Try.ntmps19
  go_wp2_with fail
  go_ret
  exact ⟨rfl, rfl⟩
theorem pushS_end {W3 : World} {B g o n c' lim : Nat} {L L' : List (ByteArray)} {a0 : Value} (hB : Blk W3 B 65 #[.int .i64 (lim : Int), .slice (some ⟨g, o, none⟩) (n + 1) c', a0]) (hT : Tail W3 9 (some ⟨g, o, none⟩) (n + 1) c' (cellss L)) (hBg : B ≠ g)
    (k : Nat) (hk : k ≤ n) (hL : cellss L' = (cellss L).drop k) (hl : L'.length = n + 1 - k) (h1 : 1 ≤ lim) (h2 : lim ≤ 64) (h3 : L'.length ≤ lim) :
    RingS ((W3.setCell ⟨B, 1, none⟩ (.slice (some ⟨g, o + k, none⟩) L'.length (c' - k))).setCell ⟨B, 2, none⟩ (.int .i64 0)).drew B (some ⟨g, o + k, none⟩) (c' - k) lim L' 0 := by
  refine ⟨((hB.set_ 1 _).set_ 2 _).drew, ?_, h1, h2, h3, .inl (by omega)⟩
  have h := hT.drop k (by omega)
  rw [← hL, ← hl] at h
  exact Tail.keep h ((((Keep.refl (fun k => k = B) W3).setCell (fun _ => rfl) _).setCell (fun _ => rfl) _).drew) (fun k' o' h e => by cases h; exact hBg e.symm)
def PushS (w : World) (B : Nat) (A : Option Addr) (lim : Nat) (L : List (ByteArray)) (w' : World) : Prop :=
  ∃ A' c', RingS w' B A' c' lim L 0 ∧ Keep (Foot B A) w w' ∧ ∀ k, Foot B A' k → Foot B A k ∨ w.heap.size ≤ k
set_option maxRecDepth 100000 in
set_option maxHeartbeats 2000000 in
theorem pushS_does {w : World} {B : Nat} {A : Option Addr} {c lim : Nat} {L : List (ByteArray)} {at_ : Nat} (h : RingS w B A c lim L at_) (x : ByteArray) :
    Calls Try.prog 15 #[.pointer (some ⟨B, 0, none⟩), vals x] w fun e w' => (∃ v, e = .returned v) ∧ PushS w B A lim ((x :: L).take lim) w' := by
  obtain ⟨i0, hi, hz0, hz1, hz2⟩ := partsS
  have HI := Lib.hid hi
  clear hi
  have c1 := h.blk.cell 1
  have H := Lib.hid h
  have hlt := h.lt
  have hone := h.one
  have hmost := h.most
  have hfew := h.few
  have hap := h.apart
  have HKA : Hid (∀ o, A ≠ some ⟨w.heap.size, o, none⟩) := fun o hA => by
    have := h.tail.lt _ _ hA
    omega
  have HT : Hid (Tail (w.alloc (.cells #[vals x] 9)) 9 A L.length c (cellss L)) := h.tail.keep ((Keep.refl (fun _ => False) w).alloc _) (fun _ _ _ h => h)
  have HB1 : Hid (Blk (w.alloc (.cells #[vals x] 9)) B 65 #[.int .i64 (lim : Int), .slice A L.length c, .int .i64 (at_ : Int)]) := h.blk.alloc _
  have HX : Hid ((w.alloc (.cells #[vals x] 9)).cell? ⟨w.heap.size, 0, none⟩ = some (vals x)) := (Blk.new w 9 #[vals x]).cell 0
  have HAP := Lib.hid hap
  have HLT := Lib.hid hlt
  clear h hlt hap
  go_enter Try.func15, Try.ntmps15
  go_wp2_with (at_builtin; go_must (refine wpList_append_tail _ rfl _ _ 31 rfl 9 i0 (.string ⟨#[]⟩) 16 Try.underlying31 HI.out hz0 hz1 hz2 rfl (by omega) A L.length c (cellss L) rfl HT.out (by omega) w.heap.size 1 (vals x) rfl HX.out rfl HKA.out ?_))
  intro A' c' w2 hT2 hK2 hA' hmv
  have hB2 : Blk w2 B 65 #[.int .i64 (lim : Int), .slice A L.length c, .int .i64 (at_ : Int)] := HB1.out.keep hK2 (fun ⟨o, h⟩ => HAP.out o h)
  have q0 := hB2.cell 0
  have q1 := hB2.cell 1
  have q2 := hB2.cell 2
  have f1 := hB2.frozen 1
  have HT2 := Lib.hid hT2
  have HMV := Lib.hid hmv
  have HK2 : Hid (Keep (fun k => ∃ o, A = some ⟨k, o, none⟩) w w2) := ((Keep.refl _ w).alloc _).trans hK2 (fun _ _ h => h)
  have HB2 := Lib.hid hB2
  have HSZ : Hid (w.heap.size < w2.heap.size) := by
    have := hK2.size
    rw [World.size_alloc] at this
    exact this
  clear hT2 hK2 hB2 hmv HT HB1 HX HKA
  go_wp2_with fail
  obtain ⟨g, o, rfl⟩ := Tail.some_ HT2 (by omega)
  have hBg : B ≠ g := by
    obtain ⟨cur, hb⟩ := Tail.blk HT2 g o rfl
    exact fun h => Blk.ne_ hb HB2 (by decide) h.symm
  have hB3 : Blk (w2.setCell ⟨B, 1, none⟩ (.slice (some ⟨g, o, none⟩) (L.length + 1) c')) B 65 #[.int .i64 (lim : Int), .slice (some ⟨g, o, none⟩) (L.length + 1) c', .int .i64 (at_ : Int)] := Blk.set_ HB2 1 _
  have hT3 : Tail (w2.setCell ⟨B, 1, none⟩ (.slice (some ⟨g, o, none⟩) (L.length + 1) c')) 9 (some ⟨g, o, none⟩) (L.length + 1) c' (cellss (x :: L)) := by
    have e : cellss (x :: L) = cellss L ++ [vals x] := by simp [cellss]
    rw [e]
    exact Tail.keep HT2 ((Keep.refl (fun k => k = B) w2).setCell (fun _ => rfl) _) (fun k o' h e => by cases h; exact hBg e.symm)
  have HK3 : Hid (Keep (Foot B A) w (w2.setCell ⟨B, 1, none⟩ (.slice (some ⟨g, o, none⟩) (L.length + 1) c'))) := (Keep.mono HK2 (fun _ _ h => .inr h)).setCell (fun _ => .inl rfl) _
  have q0 := hB3.cell 0
  have q1 := hB3.cell 1
  have q2 := hB3.cell 2
  have f1 := hB3.frozen 1
  have f2 := hB3.frozen 2
  have HB3 := Lib.hid hB3
  have HT3 := Lib.hid hT3
  have hle := Tail.le hT3
  clear hB3 hT3 HB2 HT2 HK2
  generalize w2.setCell ⟨B, 1, none⟩ (.slice (some ⟨g, o, none⟩) (L.length + 1) c') = W3 at *
  have hc0 : ¬ c' = 0 := by omega
  by_cases hfull : L.length = lim
  · have hc1 : ¬ c' = 1 := by omega
    have hm : ((L.length : Int) + 1 - lim) = 1 := by omega
    have hcut : (x :: L).take lim = (x :: L).take lim ∧ ((x :: L).take lim).length = L.length := ⟨rfl, by rw [List.length_take]; simp; omega⟩
    have hcells : cellss ((x :: L).take lim) = (cellss (x :: L)).drop 1 := by
      unfold cellss
      rw [List.reverse_take, List.map_drop, List.length_cons, show L.length + 1 - lim = 1 by omega]
    have HCU := Lib.hid hcut.2
    have HCE := Lib.hid hcells
    have HFU := Lib.hid hfull
    clear hcut hcells hfull
    refine region_tail 19 (by kernel_rfl) (by kernel_rfl) ?_
    simp only [List.take, List.drop]
    repeat (go_big_quiet_step (fail))
    refine wpQuiet_nil ?_
    go_wp2_with fail
    go_end0
    have hend := pushS_end HB3 HT3 hBg 1 (by omega) HCE (by rw [HCU.out]; omega) hone hmost (by rw [HCU.out]; omega)
    rw [HCU.out] at hend
    refine ⟨⟨_, rfl⟩, _, _, hend, ((Keep.setCell HK3 (fun _ => .inl rfl) _).setCell (fun _ => .inl rfl) _).drew, ?_⟩
    rintro k (rfl | ⟨o', h⟩)
    · exact .inl (.inl rfl)
    · cases h
      exact (HMV.out g o rfl).imp (fun h => .inr h) (fun h => by omega)
  · have hm : ((L.length : Int) + 1 - lim) ≤ 0 := by omega
    have hcut : (x :: L).take lim = x :: L := List.take_of_length_le (by simp; omega)
    have HCU := Lib.hid hcut
    clear hcut
    refine region_tail 19 (by kernel_rfl) (by kernel_rfl) ?_
    simp only [List.take, List.drop]
    repeat (go_big_quiet_step (fail))
    refine wpQuiet_nil ?_
    go_wp2_with fail
    all_goals
      go_end0
      rw [HCU.out]
      have hz : L.length + 1 - lim = 0 := by omega
      have hend := pushS_end HB3 HT3 hBg 0 (by omega) rfl (by simp) hone hmost (by simp; omega)
      simp only [Nat.add_zero, Nat.sub_zero, List.length_cons] at hend
      try simp only [hz, Nat.add_zero, Nat.sub_zero]
      refine ⟨⟨_, rfl⟩, _, _, hend, ((Keep.setCell HK3 (fun _ => .inl rfl) _).setCell (fun _ => .inl rfl) _).drew, ?_⟩
      rintro k (rfl | ⟨o', h⟩)
      · exact .inl (.inl rfl)
      · cases h
        exact (HMV.out g o rfl).imp (fun h => .inr h) (fun h => by omega)
end Go.Proofs.Ytimkbbdncajggaa
