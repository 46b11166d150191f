/- The reference: New and Do, over the document's two stacks. -/
import Derived.Test.YtbaggkokoablbaaB3
import Derived.Test.YtbaggkokoablbaaS
import Derived.Test.YtbaggkokoablbaaP
import Derived.Deep.RegionHeld3
import Derived.Deep.RegionLaw
import Derived.Deep.DeepCutAuto
namespace Go.Proofs.Ytbaggkokoablbaa
open Go.RowKit Go.BigFrame

/-- A slice of texts: it reads as l, and lies in no block of 'bad'. -/
structure SlAt (w : World) (bad : Nat → Prop) (A : Option Addr) (c : Nat) (l : List ByteArray) : Prop where
  reads : ReadsAs w A (l.map Value.string)
  nil : A = none → l.length = 0 ∧ c = 0
  cap : l.length ≤ c
  far : ∀ b o, A = some ⟨b, o, none⟩ → ¬ bad b ∧ b < w.heap.size
  spot : ∀ a, A = some a → a.spot = none

theorem SlAt.keep {w w' : World} {bad S : Nat → Prop} {A : Option Addr} {c : Nat} {l : List ByteArray} (h : SlAt w bad A c l) (hk : Keep S w w') (hs : ∀ k, k < w.heap.size → S k → bad k) : SlAt w' bad A c l :=
  ⟨h.reads.keep hk (fun b o hA hS => (h.far b o hA).1 (hs b (h.far b o hA).2 hS)), h.nil, h.cap, fun b o hA => ⟨(h.far b o hA).1, Nat.lt_of_lt_of_le (h.far b o hA).2 hk.size⟩, h.spot⟩

/-- What Do answers. -/
def refVal (st : St) (A1 : Option Addr) (c1 : Nat) (A2 : Option Addr) (c2 : Nat) : Value :=
  .agg #[.int .i64 st.lim, .slice A1 st.back.length c1, .string st.now, .slice A2 st.forth.length c2, .int .i64 st.op]

theorem sl_oneCell (l : List ByteArray) : ∀ u ∈ l.map Value.string, u.oneCell' = true := by
  intro u hu
  obtain ⟨x, _, rfl⟩ := List.mem_map.1 hu
  rfl

theorem boxed3 {w W1 : World} {c1 c2 c3 : Array Value} {t1 t2 t3 : TypeId} (hW : ((w.alloc (.cells c1 t1)).alloc (.cells c2 t2)).alloc (.cells c3 t3) = W1) :
    Blk W1 w.heap.size t1 c1 ∧ Blk W1 (w.heap.size + 1) t2 c2 ∧ Blk W1 (w.heap.size + 1 + 1) t3 c3 ∧ w.heap.size + 1 + 1 < W1.heap.size ∧ Keep (fun _ => False) w W1 := by
  subst hW
  have b1 := ((Blk.new w t1 c1).alloc (.cells c2 t2)).alloc (.cells c3 t3)
  have b2 := (Blk.new (w.alloc (.cells c1 t1)) t2 c2).alloc (.cells c3 t3)
  have b3 := Blk.new ((w.alloc (.cells c1 t1)).alloc (.cells c2 t2)) t3 c3
  simp only [World.size_alloc] at b2 b3
  exact ⟨b1, b2, b3, by simp, (((Keep.refl _ w).alloc _).alloc _).alloc _⟩

theorem reads_one {w w2 : World} {k : Nat} {v : Value} {S : Nat → Prop} {t : TypeId} (hB : Blk w k t #[v]) (hK : Keep S w w2) (hS : ¬ S k) : ReadsAs w2 (some ⟨k, 0, none⟩) [v] := by
  intro i u hu
  match i, hu with
  | 0, hu =>
    simp at hu
    subst hu
    exact ⟨k, 0, rfl, ((hB.keep hK hS).cell 0).trans rfl⟩

theorem one_oneCell (x : ByteArray) : ∀ u ∈ [Value.string x], u.oneCell' = true := by
  intro u hu
  simp at hu
  subst hu
  rfl

theorem ne_of_addr {X k : Nat} (hne : X ≠ k) : ¬ ∃ o : Nat, (some (⟨X, 0, none⟩ : Addr)) = some ⟨k, o, none⟩ := by
  rintro ⟨o, h⟩
  injection h with h
  injection h with h
  exact hne h

theorem keep_past {W1 w1 w2 : World} {X : Nat} (h1 : Keep (fun _ => False) W1 w1) (hK : Keep (fun k => ∃ o : Nat, (some (⟨X, 0, none⟩ : Addr)) = some ⟨k, o, none⟩) w1 w2) (hX : W1.heap.size ≤ X) : Keep (fun _ => False) W1 w2 :=
  h1.trans hK (fun k hk h => ne_of_addr (by omega) h)

theorem keep_past2 {W1 w2 w3 : World} {e : TypeId} {A : Option Addr} {n c : Nat} {xs : List Value} (h1 : Keep (fun _ => False) W1 w2) (hF : Fresh w2 W1.heap.size e A n c xs) (hK : Keep (fun k => ∃ o : Nat, A = some ⟨k, o, none⟩) w2 w3) : Keep (fun _ => False) W1 w3 :=
  h1.trans hK (fun k hk ⟨o, h⟩ => by have := (hF.block k o h).1; omega)

theorem SlAt.of_fresh {w : World} {base c : Nat} {bad : Nat → Prop} {A : Option Addr} {l : List ByteArray} (h : Fresh w base 9 A l.length c (l.map Value.string)) (hb : ∀ k, base ≤ k → ¬ bad k) : SlAt w bad A c l := by
  refine ⟨h.reads, ?_, ?_, fun b o hA => ⟨hb b (h.block b o hA).1, (h.block b o hA).2⟩, ?_⟩
  · intro hA
    rcases h.2 with ⟨hv, h0⟩ | ⟨g, cap, cur, hv, _⟩
    · injection hv with _ h1 h2
      exact ⟨h0, h2⟩
    · rw [hA] at hv
      injection hv with h1
      cases h1
  · rcases h.2 with ⟨hv, h0⟩ | ⟨g, cap, cur, hv, hg, hh, hnc, _⟩
    · injection hv with _ h1 h2
      omega
    · injection hv with h1 h2 h3
      omega
  · intro a hA
    rcases h.2 with ⟨hv, h0⟩ | ⟨g, cap, cur, hv, hg, hh, hnc, _⟩
    · injection hv with h1
      rw [hA] at h1
      cases h1
    · injection hv with h1
      rw [hA] at h1
      injection h1 with h1
      rw [h1]

theorem SlAt.at_ {w : World} {bad : Nat → Prop} {A : Option Addr} {c : Nat} {l : List ByteArray} (h : SlAt w bad A c l) (hl : 0 < l.length) : ∃ b o, A = some ⟨b, o, none⟩ := by
  obtain ⟨b, o, hA, _⟩ := h.reads 0 (.string l[0]) (by rw [List.getElem?_map, List.getElem?_eq_getElem hl]; rfl)
  exact ⟨b, o, hA⟩

theorem setCell_twice (v : World) (N i : Nat) (a b : Value) : (v.setCell ⟨N, i, none⟩ a).setCell ⟨N, i, none⟩ b = v.setCell ⟨N, i, none⟩ b := by
  unfold World.setCell
  congr 1
  apply Array.ext_getElem?
  intro k
  simp only [Array.getElem?_modify]
  by_cases hk : N = k
  · subst hk
    simp only [if_true]
    cases hv : v.heap[N]? with
    | none => rfl
    | some o => cases o <;> simp
  · simp only [if_neg hk]

theorem SlAt.last {w : World} {bad : Nat → Prop} {b o c : Nat} {l : List ByteArray} (h : SlAt w bad (some ⟨b, o, none⟩) c l) (hne : l ≠ []) : w.cell? ⟨b, o + (l.length - 1), none⟩ = some (.string (l.getLast?.getD ByteArray.empty)) := by
  obtain ⟨b', o', hA, hc⟩ := h.reads (l.length - 1) (.string (l.getLast?.getD ByteArray.empty)) (by rw [List.getElem?_map, getLast_get hne]; rfl)
  injection hA with hA
  injection hA with h1 h2 h3
  subst h1 h2
  exact hc

theorem SlAt.drop1 {w : World} {bad : Nat → Prop} {b o c : Nat} {l : List ByteArray} (h : SlAt w bad (some ⟨b, o, none⟩) c l) : SlAt w bad (some ⟨b, o + 1, none⟩) (c - 1) (l.drop 1) := by
  refine ⟨?_, (fun e => by cases e), (by have := h.cap; rw [List.length_drop]; omega), ?_, ?_⟩
  · intro i u hu
    rw [List.map_drop, List.getElem?_drop] at hu
    obtain ⟨b', o', hA, hc⟩ := h.reads _ u hu
    injection hA with hA
    injection hA with h1 h2 h3
    subst h1 h2
    exact ⟨b, o + 1, rfl, by rw [Nat.add_assoc]; exact hc⟩
  · intro b' o' hA
    injection hA with hA
    injection hA with h1 h2 h3
    subst h1
    exact h.far b o rfl
  · intro a ha
    injection ha with ha
    subst ha
    rfl

theorem SlAt.dropLast {w : World} {bad : Nat → Prop} {A : Option Addr} {c : Nat} {l : List ByteArray} (h : SlAt w bad A c l) (hne : l ≠ []) : SlAt w bad A c l.dropLast := by
  have hp : 0 < l.length := List.length_pos_iff.2 hne
  refine ⟨?_, ?_, ?_, h.far, h.spot⟩
  · intro i u hu
    refine h.reads i u ?_
    rw [List.getElem?_map] at hu ⊢
    rw [List.getElem?_dropLast] at hu
    split at hu
    · exact hu
    · cases hu
  · intro hA
    have := (h.nil hA).1
    omega
  · have := h.cap
    rw [List.length_dropLast]
    omega

def badN (bad : Nat → Prop) (N k : Nat) : Prop := bad k ∨ (N ≤ k ∧ k ≤ N + 1 + 1)

theorem badN_new {bad : Nat → Prop} {N k M : Nat} (hbad : ∀ k, N ≤ k → ¬ bad k) (hsz : N + 1 + 1 < M) (hk : M ≤ k) : ¬ badN bad N k := by
  rintro (h | ⟨_, h⟩)
  · exact hbad k (by omega) h
  · omega

theorem SlAt.weaken {w : World} {bad bad' : Nat → Prop} {A : Option Addr} {c : Nat} {l : List ByteArray} (h : SlAt w bad' A c l) (hb : ∀ k, bad k → bad' k) : SlAt w bad A c l :=
  ⟨h.reads, h.nil, h.cap, fun b o hA => ⟨fun hb' => (h.far b o hA).1 (hb b hb'), (h.far b o hA).2⟩, h.spot⟩

/-- What lies in the boxes of Do behind the two appends: field j is another row. -/
def BoxRel (w : World) (N : Nat) (bad : Nat → Prop) (cs : Array Value) (j : Nat) (o r : Array Value) (l : List ByteArray) (wx : World) : Prop :=
  ∃ A c, Blk wx N 41 (cs.setIfInBounds j (.slice A l.length c)) ∧ Blk wx (N + 1) 44 o ∧ Blk wx (N + 1 + 1) 41 r ∧ SlAt wx bad A c l ∧ Keep (fun _ => False) w wx

theorem boxRel_end {w W1 w3 : World} {N j c3 : Nat} {bad : Nat → Prop} {l : List ByteArray} {now : ByteArray} {A3 : Option Addr} {cs o r : Array Value} (hN : w.heap.size = N)
    (hsz : N + 1 + 1 < W1.heap.size) (hB0 : Blk W1 N 41 cs) (hB1 : Blk W1 (N + 1) 44 o) (hB2 : Blk W1 (N + 1 + 1) 41 r)
    (hKw : Keep (fun _ => False) w W1) (hF : Fresh w3 W1.heap.size 9 A3 (l.length + 1) c3 (l.map Value.string ++ [.string now])) (hK : Keep (fun _ => False) W1 w3) (hbad : ∀ k, W1.heap.size ≤ k → ¬ bad k) :
    BoxRel w N bad cs j o r (l ++ [now]) (w3.setCell ⟨N, j, none⟩ (.slice A3 (l.length + 1) c3)) := by
  have e1 : (l ++ [now]).length = l.length + 1 := by simp
  have hS : SlAt w3 bad A3 c3 (l ++ [now]) := SlAt.of_fresh (base := W1.heap.size) (by rw [e1, List.map_append]; exact hF) hbad
  have hS1 : SlAt (w3.setCell ⟨N, j, none⟩ (.slice A3 (l.length + 1) c3)) bad A3 c3 (l ++ [now]) := by
    have hfb := hF.block
    refine ⟨?_, hS.nil, hS.cap, fun b o hA => ⟨(hS.far b o hA).1, by simpa [World.setCell] using (hS.far b o hA).2⟩, hS.spot⟩
    refine hS.reads.keep ((Keep.refl (· = N) w3).setCell (p := ⟨N, j, none⟩) (fun _ => rfl) _) ?_
    intro b o hA e
    have := (hfb b o hA).1
    omega
  refine ⟨A3, c3, ?_, ?_, ?_, hS1, ?_⟩
  · rw [e1]
    exact (hB0.keep hK (fun h => h)).set_ j _
  · exact (hB1.keep hK (fun h => h)).far (p := ⟨N, j, none⟩) (by simp) _
  · exact (hB2.keep hK (fun h => h)).far (p := ⟨N, j, none⟩) (by simp; omega) _
  · refine (hKw.trans hK (fun _ _ h => h)).setCell (p := ⟨N, j, none⟩) (fun h => ?_) _
    dsimp only at h
    omega

def RefPost (w : World) (bad : Nat → Prop) (st : St) (flag : Bool) (e : Ending) (w' : World) : Prop :=
  ∃ A1 c1 A2 c2, e = .returned (.tuple #[refVal st A1 c1 A2 c2, .bool flag]) ∧ SlAt w' bad A1 c1 st.back ∧ SlAt w' bad A2 c2 st.forth ∧ Keep (fun _ => False) w w'

theorem SlAt.nil_ (w : World) (bad : Nat → Prop) : SlAt w bad none 0 [] :=
  ⟨(fun i u hu => by simp at hu), fun _ => ⟨rfl, rfl⟩, Nat.le_refl _, (fun b o h => by cases h), (fun a h => by cases h)⟩

theorem ref_end {w w' : World} {bad : Nat → Prop} {st : St} {flag : Bool} {A1 A2 : Option Addr} {n1 c1 n2 c2 : Nat} {lim : Nat} {now : ByteArray} {op : Int}
    (h0 : lim = st.lim) (h1 : n1 = st.back.length) (h2 : now = st.now) (h3 : n2 = st.forth.length) (h4 : op = st.op) (hA1 : SlAt w' bad A1 c1 st.back) (hA2 : SlAt w' bad A2 c2 st.forth) (hk : Keep (fun _ => False) w w') :
    RefPost w bad st flag (.returned (.tuple #[.agg #[.int .i64 lim, .slice A1 n1 c1, .string now, .slice A2 n2 c2, .int .i64 op], .bool flag])) w' := by
  subst h0 h1 h2 h3 h4
  exact ⟨A1, c1, A2, c2, rfl, hA1, hA2, hk⟩

theorem SlAt.past {w w' : World} {bad : Nat → Prop} {N : Nat} {A : Option Addr} {c : Nat} {l : List ByteArray} (h : SlAt w (badN bad N) A c l) (hk : Keep (fun k => N ≤ k ∧ k ≤ N + 1 + 1) w w') : SlAt w' bad A c l :=
  (h.keep hk (fun _ _ h => .inr h)).weaken (fun _ h => .inl h)

set_option maxRecDepth 100000 in
set_option maxHeartbeats 4000000 in
theorem refDo_same {st : St} {s : ByteArray} {g : Int} {w : World} {bad : Nat → Prop} {A1 A2 : Option Addr} {c1 c2 : Nat} (h1 : SlAt w bad A1 c1 st.back) (h2 : SlAt w bad A2 c2 st.forth) (ok : st.Ok) (hbad : ∀ k, w.heap.size ≤ k → ¬ bad k) (hs : (s.toList == st.now.toList) = true) :
    Calls Try.prog 21 #[.agg #[.int .i64 st.lim, .slice A1 st.back.length c1, .string st.now, .slice A2 st.forth.length c2, .int .i64 st.op], .agg #[.int .i64 0, .string s, .int .i64 g]] w (RefPost w bad (st.step ⟨0, s, g⟩).1 (st.step ⟨0, s, g⟩).2) := by
  have e1 : st.step ⟨0, s, g⟩ = (st, false) := by unfold St.step; rw [if_pos rfl]; exact if_pos hs
  rw [e1]
  obtain ⟨i0, hi, hz0, hz1, hz2⟩ := info_parts info_s
  have hl0 := ok.one
  have hl1 := ok.most
  have hl2 := ok.room
  have H1 := Lib.hid h1
  have H2 := Lib.hid h2
  have HBAD := Lib.hid hbad
  clear h1 h2 hbad e1
  go_enter Try.func21, Try.ntmps21
  go_wp2_with fail
  refine bodyPost_ret (v := .tuple #[.agg #[.int .i64 st.lim, .slice A1 st.back.length c1, .string st.now, .slice A2 st.forth.length c2, .int .i64 st.op], .bool false]) (by simp [results, Try.results21, go_sem]) rfl ?_
  exact ref_end rfl rfl rfl rfl rfl (H1.out.keep ((((Keep.refl (fun _ => False) w).alloc _).alloc _).alloc _) (fun _ _ h => h.elim)) (H2.out.keep ((((Keep.refl (fun _ => False) w).alloc _).alloc _).alloc _) (fun _ _ h => h.elim)) ((((Keep.refl (fun _ => False) w).alloc _).alloc _).alloc _)

set_option maxRecDepth 100000 in
set_option maxHeartbeats 4000000 in
theorem refDo_group {st : St} {s : ByteArray} {g : Int} {w : World} {bad : Nat → Prop} {A1 A2 : Option Addr} {c1 c2 : Nat} (h1 : SlAt w bad A1 c1 st.back) (h2 : SlAt w bad A2 c2 st.forth) (ok : st.Ok) (hbad : ∀ k, w.heap.size ≤ k → ¬ bad k) (hs : (s.toList == st.now.toList) = false) (hg : 0 < g) (ho : g = st.op) :
    Calls Try.prog 21 #[.agg #[.int .i64 st.lim, .slice A1 st.back.length c1, .string st.now, .slice A2 st.forth.length c2, .int .i64 st.op], .agg #[.int .i64 0, .string s, .int .i64 g]] w (RefPost w bad (st.step ⟨0, s, g⟩).1 (st.step ⟨0, s, g⟩).2) := by
  have e1 : st.step ⟨0, s, g⟩ = (({ lim := st.lim, back := st.back, now := s, forth := [], op := max g 0 } : St), true) := by
    unfold St.step
    rw [if_pos rfl, if_neg (by rw [hs]; exact Bool.false_ne_true)]
    dsimp only
    rw [if_neg (by simp only [not_or, Decidable.not_not]; exact ⟨by omega, ho⟩)]
  rw [e1]
  obtain ⟨i0, hi, hz0, hz1, hz2⟩ := info_parts info_s
  have hl0 := ok.one
  have hl1 := ok.most
  have hl2 := ok.room
  have H1 := Lib.hid h1
  have H2 := Lib.hid h2
  have HBAD := Lib.hid hbad
  have hob : (g != st.op) = false := by rw [ho]; simp
  have HO := Lib.hid ho
  clear ho
  clear h1 h2 hbad e1
  go_enter Try.func21, Try.ntmps21
  go_wp2_with fail
  refine bodyPost_ret (v := .tuple #[.agg #[.int .i64 st.lim, .slice A1 st.back.length c1, .string s, .slice none 0 0, .int .i64 g], .bool true]) (by simp [results, Try.results21, go_sem]) rfl ?_
  exact ref_end rfl rfl rfl rfl (by dsimp only; omega) (H1.out.keep ((((Keep.refl (fun _ => False) w).alloc _).alloc _).alloc _) (fun _ _ h => h.elim)) (SlAt.nil_ _ _) ((((Keep.refl (fun _ => False) w).alloc _).alloc _).alloc _)

set_option maxRecDepth 100000 in
set_option maxHeartbeats 4000000 in
theorem refDo_move {st : St} {s : ByteArray} {g : Int} {w : World} {bad : Nat → Prop} {A1 A2 : Option Addr} {c1 c2 : Nat} (h1 : SlAt w bad A1 c1 st.back) (h2 : SlAt w bad A2 c2 st.forth) (ok : st.Ok) (hbad : ∀ k, w.heap.size ≤ k → ¬ bad k)  :
    Calls Try.prog 21 #[.agg #[.int .i64 st.lim, .slice A1 st.back.length c1, .string st.now, .slice A2 st.forth.length c2, .int .i64 st.op], .agg #[.int .i64 1, .string s, .int .i64 g]] w (RefPost w bad (st.step ⟨1, s, g⟩).1 (st.step ⟨1, s, g⟩).2) := by
  have e1 : st.step ⟨1, s, g⟩ = ({ st with now := s }, false) := by unfold St.step; rw [if_neg (by dsimp only; decide), if_pos rfl]
  rw [e1]
  obtain ⟨i0, hi, hz0, hz1, hz2⟩ := info_parts info_s
  have hl0 := ok.one
  have hl1 := ok.most
  have hl2 := ok.room
  have H1 := Lib.hid h1
  have H2 := Lib.hid h2
  have HBAD := Lib.hid hbad
  clear h1 h2 hbad e1
  go_enter Try.func21, Try.ntmps21
  go_wp2_with fail
  refine bodyPost_ret (v := .tuple #[.agg #[.int .i64 st.lim, .slice A1 st.back.length c1, .string s, .slice A2 st.forth.length c2, .int .i64 st.op], .bool false]) (by simp [results, Try.results21, go_sem]) rfl ?_
  exact ref_end rfl rfl rfl rfl rfl (H1.out.keep ((((Keep.refl (fun _ => False) w).alloc _).alloc _).alloc _) (fun _ _ h => h.elim)) (H2.out.keep ((((Keep.refl (fun _ => False) w).alloc _).alloc _).alloc _) (fun _ _ h => h.elim)) ((((Keep.refl (fun _ => False) w).alloc _).alloc _).alloc _)

set_option maxRecDepth 100000 in
set_option maxHeartbeats 4000000 in
theorem refDo_break {st : St} {s : ByteArray} {g : Int} {w : World} {bad : Nat → Prop} {A1 A2 : Option Addr} {c1 c2 : Nat} (h1 : SlAt w bad A1 c1 st.back) (h2 : SlAt w bad A2 c2 st.forth) (ok : st.Ok) (hbad : ∀ k, w.heap.size ≤ k → ¬ bad k)  :
    Calls Try.prog 21 #[.agg #[.int .i64 st.lim, .slice A1 st.back.length c1, .string st.now, .slice A2 st.forth.length c2, .int .i64 st.op], .agg #[.int .i64 2, .string s, .int .i64 g]] w (RefPost w bad (st.step ⟨2, s, g⟩).1 (st.step ⟨2, s, g⟩).2) := by
  have e1 : st.step ⟨2, s, g⟩ = ({ st with op := 0 }, false) := by unfold St.step; rw [if_neg (by dsimp only; decide), if_neg (by dsimp only; decide), if_pos rfl]
  rw [e1]
  obtain ⟨i0, hi, hz0, hz1, hz2⟩ := info_parts info_s
  have hl0 := ok.one
  have hl1 := ok.most
  have hl2 := ok.room
  have H1 := Lib.hid h1
  have H2 := Lib.hid h2
  have HBAD := Lib.hid hbad
  clear h1 h2 hbad e1
  go_enter Try.func21, Try.ntmps21
  go_wp2_with fail
  refine bodyPost_ret (v := .tuple #[.agg #[.int .i64 st.lim, .slice A1 st.back.length c1, .string st.now, .slice A2 st.forth.length c2, .int .i64 0], .bool false]) (by simp [results, Try.results21, go_sem]) rfl ?_
  exact ref_end rfl rfl rfl rfl rfl (H1.out.keep ((((Keep.refl (fun _ => False) w).alloc _).alloc _).alloc _) (fun _ _ h => h.elim)) (H2.out.keep ((((Keep.refl (fun _ => False) w).alloc _).alloc _).alloc _) (fun _ _ h => h.elim)) ((((Keep.refl (fun _ => False) w).alloc _).alloc _).alloc _)

set_option maxRecDepth 100000 in
set_option maxHeartbeats 4000000 in
theorem refDo_undoNo {st : St} {s : ByteArray} {g : Int} {w : World} {bad : Nat → Prop} {A1 A2 : Option Addr} {c1 c2 : Nat} (h1 : SlAt w bad A1 c1 st.back) (h2 : SlAt w bad A2 c2 st.forth) (ok : st.Ok) (hbad : ∀ k, w.heap.size ≤ k → ¬ bad k) (hb : st.back = []) :
    Calls Try.prog 21 #[.agg #[.int .i64 st.lim, .slice A1 st.back.length c1, .string st.now, .slice A2 st.forth.length c2, .int .i64 st.op], .agg #[.int .i64 3, .string s, .int .i64 g]] w (RefPost w bad (st.step ⟨3, s, g⟩).1 (st.step ⟨3, s, g⟩).2) := by
  have e1 : st.step ⟨3, s, g⟩ = (st, false) := by unfold St.step; rw [if_neg (by dsimp only; decide), if_neg (by dsimp only; decide), if_neg (by dsimp only; decide), if_pos rfl]; exact if_pos hb
  rw [e1]
  obtain ⟨i0, hi, hz0, hz1, hz2⟩ := info_parts info_s
  have hl0 := ok.one
  have hl1 := ok.most
  have hl2 := ok.room
  have H1 := Lib.hid h1
  have H2 := Lib.hid h2
  have HBAD := Lib.hid hbad
  have hb0 : ((st.back.length : Int) == 0) = true := by rw [hb]; rfl
  clear hb
  clear h1 h2 hbad e1
  go_enter Try.func21, Try.ntmps21
  go_wp2_with fail
  refine bodyPost_ret (v := .tuple #[.agg #[.int .i64 st.lim, .slice A1 st.back.length c1, .string st.now, .slice A2 st.forth.length c2, .int .i64 st.op], .bool false]) (by simp [results, Try.results21, go_sem]) rfl ?_
  exact ref_end rfl rfl rfl rfl rfl (H1.out.keep ((((Keep.refl (fun _ => False) w).alloc _).alloc _).alloc _) (fun _ _ h => h.elim)) (H2.out.keep ((((Keep.refl (fun _ => False) w).alloc _).alloc _).alloc _) (fun _ _ h => h.elim)) ((((Keep.refl (fun _ => False) w).alloc _).alloc _).alloc _)

set_option maxRecDepth 100000 in
set_option maxHeartbeats 4000000 in
theorem refDo_redoNo {st : St} {s : ByteArray} {g : Int} {w : World} {bad : Nat → Prop} {A1 A2 : Option Addr} {c1 c2 : Nat} (h1 : SlAt w bad A1 c1 st.back) (h2 : SlAt w bad A2 c2 st.forth) (ok : st.Ok) (hbad : ∀ k, w.heap.size ≤ k → ¬ bad k) (hb : st.forth = []) :
    Calls Try.prog 21 #[.agg #[.int .i64 st.lim, .slice A1 st.back.length c1, .string st.now, .slice A2 st.forth.length c2, .int .i64 st.op], .agg #[.int .i64 4, .string s, .int .i64 g]] w (RefPost w bad (st.step ⟨4, s, g⟩).1 (st.step ⟨4, s, g⟩).2) := by
  have e1 : st.step ⟨4, s, g⟩ = (st, false) := by unfold St.step; rw [if_neg (by dsimp only; decide), if_neg (by dsimp only; decide), if_neg (by dsimp only; decide), if_neg (by dsimp only; decide), if_pos rfl]; exact if_pos hb
  rw [e1]
  obtain ⟨i0, hi, hz0, hz1, hz2⟩ := info_parts info_s
  have hl0 := ok.one
  have hl1 := ok.most
  have hl2 := ok.room
  have H1 := Lib.hid h1
  have H2 := Lib.hid h2
  have HBAD := Lib.hid hbad
  have hb0 : ((st.forth.length : Int) == 0) = true := by rw [hb]; rfl
  clear hb
  clear h1 h2 hbad e1
  go_enter Try.func21, Try.ntmps21
  go_wp2_with fail
  refine bodyPost_ret (v := .tuple #[.agg #[.int .i64 st.lim, .slice A1 st.back.length c1, .string st.now, .slice A2 st.forth.length c2, .int .i64 st.op], .bool false]) (by simp [results, Try.results21, go_sem]) rfl ?_
  exact ref_end rfl rfl rfl rfl rfl (H1.out.keep ((((Keep.refl (fun _ => False) w).alloc _).alloc _).alloc _) (fun _ _ h => h.elim)) (H2.out.keep ((((Keep.refl (fun _ => False) w).alloc _).alloc _).alloc _) (fun _ _ h => h.elim)) ((((Keep.refl (fun _ => False) w).alloc _).alloc _).alloc _)

set_option maxRecDepth 100000 in
set_option maxHeartbeats 4000000 in
theorem refDo_other {st : St} {kind : Int} {s : ByteArray} {g : Int} {w : World} {bad : Nat → Prop} {A1 A2 : Option Addr} {c1 c2 : Nat} (h1 : SlAt w bad A1 c1 st.back) (h2 : SlAt w bad A2 c2 st.forth) (ok : st.Ok) (hbad : ∀ k, w.heap.size ≤ k → ¬ bad k) (hk : kind < 0 ∨ 4 < kind) :
    Calls Try.prog 21 #[.agg #[.int .i64 st.lim, .slice A1 st.back.length c1, .string st.now, .slice A2 st.forth.length c2, .int .i64 st.op], .agg #[.int .i64 kind, .string s, .int .i64 g]] w (RefPost w bad (st.step ⟨kind, s, g⟩).1 (st.step ⟨kind, s, g⟩).2) := by
  have e1 : st.step ⟨kind, s, g⟩ = (st, false) := by unfold St.step; rw [if_neg (by dsimp only; omega), if_neg (by dsimp only; omega), if_neg (by dsimp only; omega), if_neg (by dsimp only; omega), if_neg (by dsimp only; omega)]
  rw [e1]
  obtain ⟨i0, hi, hz0, hz1, hz2⟩ := info_parts info_s
  have hl0 := ok.one
  have hl1 := ok.most
  have hl2 := ok.room
  have H1 := Lib.hid h1
  have H2 := Lib.hid h2
  have HBAD := Lib.hid hbad
  clear h1 h2 hbad e1
  go_enter Try.func21, Try.ntmps21
  go_wp2_with fail
  refine bodyPost_ret (v := .tuple #[.agg #[.int .i64 st.lim, .slice A1 st.back.length c1, .string st.now, .slice A2 st.forth.length c2, .int .i64 st.op], .bool false]) (by simp [results, Try.results21, go_sem]) rfl ?_
  exact ref_end rfl rfl rfl rfl rfl (H1.out.keep ((((Keep.refl (fun _ => False) w).alloc _).alloc _).alloc _) (fun _ _ h => h.elim)) (H2.out.keep ((((Keep.refl (fun _ => False) w).alloc _).alloc _).alloc _) (fun _ _ h => h.elim)) ((((Keep.refl (fun _ => False) w).alloc _).alloc _).alloc _)

end Go.Proofs.Ytbaggkokoablbaa
