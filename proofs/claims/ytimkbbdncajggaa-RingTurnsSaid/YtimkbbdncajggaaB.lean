/- Words for memory: blocks that are known whole, what a call keeps, appends told by what they leave. -/
import Derived.WalkKit
import Derived.Deep.Draws
import Derived.Laws.Rows
import Derived.Lib.Hide
import Derived.WalkSpells
import Derived.ArgAppend
import Derived.Maps.AppendAt
import Derived.StillTailTactics
import Derived.Deep.QuietTactic
import Derived.BigQuiet
import Derived.Laws.AppendOwnNone
import Derived.RegionTactic
namespace Go.Proofs.Ytimkbbdncajggaa
open Go.RowKit

/-- Block g is just the cells cs of element type t, none frozen. -/
def Blk (w : World) (g : Nat) (t : TypeId) (cs : Array Value) : Prop := w.heap[g]? = some (.cells cs t (0, 0))

/-- What a call keeps: the streams, and every block that was there but those of S. -/
structure Keep (S : Nat → Prop) (w w' : World) : Prop where
  os : w'.os = w.os
  tape : w'.tape = w.tape
  output : w'.output = w.output
  size : w.heap.size ≤ w'.heap.size
  block : ∀ k, k < w.heap.size → ¬ S k → w'.heap[k]? = w.heap[k]?

section
variable {w w' w'' : World} {g : Nat} {t : TypeId} {cs : Array Value} {S T : Nat → Prop}
theorem Blk.lt (h : Blk w g t cs) : g < w.heap.size := by
  rcases Nat.lt_or_ge g w.heap.size with hlt | hge
  · exact hlt
  · unfold Blk at h; rw [Array.getElem?_eq_none hge] at h; cases h
theorem Blk.cell (h : Blk w g t cs) (i : Nat) : w.cell? ⟨g, i, none⟩ = cs[i]? := cell_of_row w g i cs t (0, 0) h
theorem Blk.frozen (h : Blk w g t cs) (i : Nat) : w.frozen? ⟨g, i, none⟩ = false := by
  unfold Blk at h
  simp [World.frozen?, h]
theorem Blk.new (w : World) (t : TypeId) (cs : Array Value) : Blk (w.alloc (.cells cs t)) w.heap.size t cs := heap_alloc_new w _
theorem Blk.drew (h : Blk w g t cs) : Blk w.drew g t cs := h
theorem Blk.drewN (h : Blk w g t cs) (n : Nat) : Blk (w.drewN n) g t cs := h
theorem Blk.alloc (h : Blk w g t cs) (o : Obj) : Blk (w.alloc o) g t cs := (Below.heap_alloc w o g h.lt).trans h
theorem Blk.set_ (h : Blk w g t cs) (i : Nat) (u : Value) : Blk (w.setCell ⟨g, i, none⟩ u) g t (cs.setIfInBounds i u) := by
  unfold Blk at h ⊢
  simp [World.setCell, Array.getElem?_modify, h]
theorem Blk.far (h : Blk w g t cs) {p : Addr} (hp : g ≠ p.block) (u : Value) : Blk (w.setCell p u) g t cs := (Below.heap_setCell w p u g hp).trans h
theorem Blk.keep (h : Blk w g t cs) (hk : Keep S w w') (hg : ¬ S g) : Blk w' g t cs := (hk.block g h.lt hg).trans h
theorem Blk.ne_ {g' : Nat} {t' : TypeId} {cs' : Array Value} (h : Blk w g t cs) (h' : Blk w g' t' cs') (hne : t ≠ t') : g ≠ g' := by
  rintro rfl
  unfold Blk at h h'
  rw [h] at h'
  injection h' with h'
  injection h' with _ ht
  exact hne ht

theorem Keep.refl (S : Nat → Prop) (w : World) : Keep S w w := ⟨rfl, rfl, rfl, Nat.le_refl _, fun _ _ _ => rfl⟩
theorem Keep.trans (h : Keep S w w') (k : Keep T w' w'') (hs : ∀ i, i < w.heap.size → T i → S i) : Keep S w w'' :=
  ⟨k.os.trans h.os, k.tape.trans h.tape, k.output.trans h.output, Nat.le_trans h.size k.size, fun i hi hn => (k.block i (Nat.lt_of_lt_of_le hi h.size) (fun ht => hn (hs i hi ht))).trans (h.block i hi hn)⟩
theorem Keep.mono (h : Keep S w w') (hs : ∀ i, i < w.heap.size → S i → T i) : Keep T w w' := ⟨h.os, h.tape, h.output, h.size, fun i hi hn => h.block i hi (fun ht => hn (hs i hi ht))⟩
theorem Keep.drew (h : Keep S w w') : Keep S w w'.drew := ⟨h.os, h.tape, h.output, h.size, h.block⟩
theorem Keep.drewN (h : Keep S w w') (n : Nat) : Keep S w (w'.drewN n) := ⟨h.os, h.tape, h.output, h.size, h.block⟩
theorem Keep.alloc (h : Keep S w w') (o : Obj) : Keep S w (w'.alloc o) :=
  h.trans (T := fun _ => False) ⟨rfl, rfl, rfl, by simp, fun k hk _ => Below.heap_alloc _ _ _ hk⟩ (fun _ _ h => h.elim)
theorem Keep.setCell (h : Keep S w w') {p : Addr} (hp : p.block < w.heap.size → S p.block) (u : Value) : Keep S w (w'.setCell p u) :=
  h.trans (T := fun k => k = p.block) ⟨rfl, rfl, rfl, by simp [World.setCell], fun k _ hn => Below.heap_setCell _ _ _ _ hn⟩ (fun i hi e => by subst e; exact hp hi)
theorem Keep.grown {row : Option Nat} (h : Keep S w w') (hg : w'.grownBy w'' row) (hr : ∀ k, row = some k → k < w.heap.size → S k) : Keep S w w'' :=
  h.trans (T := fun k => row = some k) ⟨hg.os, hg.tape, hg.output, hg.size, fun k hk hn => hg.block k hk (fun e => hn e.symm)⟩ (fun i hi e => hr i e hi)
theorem Keep.cell (h : Keep S w w') {p : Addr} (hp : p.block < w.heap.size) (hs : ¬ S p.block) : w'.cell? p = w.cell? p := World.cell?_of_block (h.block p.block hp hs)
theorem Keep.below (h : Keep (fun _ => False) w w') : Below w.heap.size w w' := ⟨h.os, h.tape, h.output, h.size, fun k hk => h.block k hk (fun h => h)⟩
end

theorem cell_alloc_some {w : World} {a : Addr} {v : Value} (h : w.cell? a = some v) (o : Obj) : (w.alloc o).cell? a = some v :=
  (World.cell?_of_block (Below.heap_alloc w o a.block (World.block_lt_of_cell? w a h))).trans h


theorem add_off (r o j : Nat) : (⟨r, o, none⟩ : Addr).add j = ⟨r, o + j, none⟩ := by
  unfold Addr.add
  split
  · next h => subst h; rfl
  · rfl

/-- 'append(s, x)' of one cell where there is no room: a new row. -/
theorem append_new1 {P : Program} (w : World) {ops : Array Oper} {rest : List Oper} {o : Oper} {a : Act} {Q : Exit → Act → World → Prop}
    (hg : o.guard = none) (s x : Operand) (t : TypeId) (hop : o.op = Op.call { callee := Callee.builtin Builtin.append, args := #[s, x], argTypes := #[t, t] })
    (e : TypeId) (i : TypeInfo) (z : Value) (bytes : Nat) (h1 : P.underlying t = some (.slice e)) (h2 : P.info? e = some i) (h3 : i.zero = some z) (h4 : i.size = 1) (h5 : i.bytes = bytes) (h6 : z.cells.size = 1)
    (r off n cap : Nat) (olds : List Value) (hs : a.eval s = .slice (some ⟨r, off, none⟩) n cap) (hlo : olds.length = n) (holds : ∀ j u, olds[j]? = some u → w.cell? ⟨r, off + j, none⟩ = some u)
    (k c : Nat) (v : Value) (hx : a.eval x = .slice (some ⟨k, 0, none⟩) 1 c) (hc : w.cell? ⟨k, 0, none⟩ = some v) (h1c : v.oneCell' = true)
    (hfull : cap < n + 1) (b2 : (n + 1) * bytes ≤ 140737488355328) (b3 : n ≤ 1000000)
    (hK : ∀ (g cap' : Nat) (cur : Array Value) (w' : World), w.heap.size ≤ g → n + 1 ≤ cap' → Blk w' g e cur → (∀ (j : Nat) (u : Value), (olds ++ [v])[j]? = some u → cur[j]? = some u) → Keep (fun _ => False) w w' →
      wpList P ops Q rest (a.put o.dst (.slice (some ⟨g, 0, none⟩) (n + 1) cap')) w') :
    wpList P ops Q (o :: rest) a w := by
  refine wpList_append_grows w hg s x t hop e i z 1 bytes h1 h2 h3 h4 h5 h6 (by omega) (some ⟨r, off, none⟩) n cap olds hs (fun h => by cases h) (by omega) ?_ ⟨k, 0, none⟩ 1 c [v] hx rfl ?_ ?_ hfull (by unfold maxLen; omega) b2 ?_
  · rintro b hb j u hu
    cases hb
    rw [add_off]
    exact holds j u hu
  · intro j u hu
    rw [add_off]
    match j, hu with
    | 0, hu => simp at hu; subst hu; exact hc
  · intro u hu
    simp at hu
    subst hu
    exact h1c
  · intro v' w' hown hgr
    rcases hown.2 with ⟨_, h0⟩ | ⟨g, cap', cur, rfl, hg', hh, hnc, hcm, hsz, htk⟩
    · omega
    · refine hK g cap' cur w' hg' hnc hh ?_ ((Keep.refl _ w).grown hgr (fun k h => by cases h))
      intro j u hu
      rw [← htk] at hu
      rw [List.getElem?_take] at hu
      split at hu
      · simpa using hu
      · cases hu

theorem still_of_quiet {P : Program} {o : Oper} {a : Act} {w : World} {K : Act → Prop} (h : o.quiet P a (fun w' => w' = w) K) : o.still P a w K := by
  obtain ⟨v, h1, h2⟩ := h
  have h3 := h1 w rfl
  unfold Oper.quietAt at h3
  unfold Oper.still
  generalize (execOp a.eval o).run P w = r at *
  cases r with
  | ok n w' =>
    cases n <;> simp only [Oper.quietUpon] at h3 <;> simp only [Oper.stillUpon]
    case value u =>
      obtain ⟨e1, e2⟩ := h3
      rw [← e2] at h2
      exact ⟨e1, h2⟩
    case skip =>
      obtain ⟨e1, e2⟩ := h3
      rw [e2] at h2
      exact ⟨e1, h2⟩
    case enter f args =>
      obtain ⟨e1, hc⟩ := h3
      exact ⟨e1, v, hc, h2⟩
  | halt x w' => simp only [Oper.quietUpon] at h3

theorem wpStill_of_quiet {P : Program} {ops : Array Oper} {w : World} {Q : Act → Prop} : ∀ (l : List Oper) (a : Act), wpQuiet P ops (fun w' => w' = w) Q l a → wpStill P ops w Q l a
  | [], _, h => h
  | o :: l, a, h => by
    unfold wpQuiet at h
    unfold wpStill
    split
    · next hw =>
      rw [if_pos hw] at h
      exact still_of_quiet (Oper.quiet_mono (fun a' => wpStill_of_quiet l a') h)
    · next hw =>
      rw [if_neg hw] at h
      exact wpStill_of_quiet l _ h

/-- A region that draws its order: its head reads, its tail is carried out in the text's order. -/
theorem region_tail {P : Program} {id : Nat} {Q : Exit → Act → World → Prop} {a : Act} {w : World} {l : List Oper} (n : Nat) (hm : P.follows .mixedOrders = true) (hB : Region.lexTailB .any l.toArray n = true)
    (h : wpQuiet P l.toArray (fun w' => w' = w.drew) (fun a' => wpList P l.toArray Q (l.drop n) a' w.drew) (l.take n) a) : (Code.region id l.toArray true).wp P Q a w :=
  wp_region_still_tail n hm hB (wpStill_of_quiet _ _ h)

/-- A slice value that reads as the values xs (one cell each), in the block that it names. -/
def ReadsAs (w : World) (A : Option Addr) (xs : List Value) : Prop :=
  ∀ (i : Nat) (u : Value), xs[i]? = some u → ∃ b o, A = some ⟨b, o, none⟩ ∧ w.cell? ⟨b, o + i, none⟩ = some u

/-- A row of the call's own that holds just xs: a new row, nothing else points into it. -/
def Fresh (w : World) (base : Nat) (e : TypeId) (A : Option Addr) (n c : Nat) (xs : List Value) : Prop := w.ownsRow base e 1 (.slice A n c) n xs

theorem Fresh.reads {w : World} {base : Nat} {e : TypeId} {A : Option Addr} {n c : Nat} {xs : List Value} (h : Fresh w base e A n c xs) : ReadsAs w A xs := by
  intro i u hu
  rcases h.2 with ⟨hv, h0⟩ | ⟨g, cap, cur, hv, hg, hh, hnc, hcm, hsz, htk⟩
  · subst h0
    have : xs = [] := List.eq_nil_of_length_eq_zero (by simpa using h.1)
    subst this
    simp at hu
  · injection hv with h1 h2 h3
    subst h1
    refine ⟨g, 0, rfl, ?_⟩
    have hB : Blk w g e cur := hh
    rw [Nat.zero_add, hB.cell]
    rw [← htk, List.getElem?_take] at hu
    split at hu
    · simpa using hu
    · cases hu

theorem Fresh.block {w : World} {base : Nat} {e : TypeId} {A : Option Addr} {n c : Nat} {xs : List Value} (h : Fresh w base e A n c xs) : ∀ b o, A = some ⟨b, o, none⟩ → base ≤ b ∧ b < w.heap.size := by
  intro b o hA
  subst hA
  exact h.lt b rfl

theorem ReadsAs.keep {w w' : World} {A : Option Addr} {xs : List Value} {S : Nat → Prop} (h : ReadsAs w A xs) (hk : Keep S w w') (hs : ∀ b o, A = some ⟨b, o, none⟩ → ¬ S b) : ReadsAs w' A xs := by
  intro i u hu
  obtain ⟨b, o, hA, hc⟩ := h i u hu
  exact ⟨b, o, hA, (World.cell?_of_block (hk.block b (World.block_lt_of_cell? w _ hc) (hs b o hA))).trans hc⟩

section
variable {P : Program} (w : World)

/-- 'append(s, x...)' onto a row of the call's own, whatever the source is (nil, too). -/
theorem run_append_onto (base : Nat) (t ty e : TypeId) (i : TypeInfo) (z : Value) (bytes : Nat) (ht : P.underlying t = some (.slice e)) (hi : P.info? e = some i) (hz : i.zero = some z)
    (hsize : i.size = 1) (hby : i.bytes = bytes) (hzs : z.cells.size = 1)
    (A : Option Addr) (n c : Nat) (xs : List Value) (hown : Fresh w base e A n c xs)
    (A2 : Option Addr) (m c2 : Nat) (news : List Value) (hl : news.length = m) (hr : ReadsAs w A2 news) (hnil : A2 = none → m = 0 ∧ c2 = 0) (h1 : ∀ u ∈ news, u.oneCell' = true)
    (h63 : n + m ≤ 1000000) (hbytes : (n + m) * bytes ≤ 140737488355328) (hbase : base ≤ w.heap.size) :
    ∃ A' c' w', (Builtin.append_ #[t, t] ty #[.slice A n c, .slice A2 m c2]).run P w = .ok (.slice A' (n + m) c') w' ∧ Fresh w' base e A' (n + m) c' (xs ++ news) ∧ Keep (fun k => ∃ o, A = some ⟨k, o, none⟩) w w' := by
  cases hA2 : A2 with
  | none =>
    obtain ⟨rfl, rfl⟩ := hnil hA2
    have hn : news = [] := List.eq_nil_of_length_eq_zero hl
    subst hn
    have hrun := run_append_owned_none (P := P) (w := w) base t ty e i 1 ht hi (.slice A n c) n xs hown
    exact ⟨A, c, w, hrun, by simpa using hown, Keep.refl _ w⟩
  | some ad =>
    subst hA2
    have hcells : ∀ j u, news[j]? = some u → w.cell? (ad.add j) = some u := by
      intro j u hu
      obtain ⟨b, o, hA, hc⟩ := hr j u hu
      injection hA with hA
      subst hA
      rw [add_off]
      exact hc
    obtain ⟨v', w', hrun, hown', hg, _, _⟩ := run_append_own_at (P := P) w base t ty e i z 1 bytes ht hi hz hsize hby hzs (by omega) (.slice A n c) n xs hown ad m c2 news (by omega) hcells h1 (by unfold maxLen; omega) hbytes hbase
    have hform : ∃ A' c', v' = .slice A' (n + m) c' := by
      rcases hown'.2 with ⟨hv, h0⟩ | ⟨g, cap, cur, hv, _⟩
      · exact ⟨none, 0, by rw [hv, h0]⟩
      · exact ⟨_, _, hv⟩
    obtain ⟨A', c', rfl⟩ := hform
    refine ⟨A', c', w', hrun, hown', (Keep.refl _ w).grown hg ?_⟩
    intro k hk _
    rcases hown.2 with ⟨hv, _⟩ | ⟨g, cap, cur, hv, _⟩
    · rw [hv] at hk; cases hk
    · injection hv with hv1 hv2 hv3
      subst hv1
      have : g = k := by simpa [Value.ownBlock] using hk
      subst this
      exact ⟨0, rfl⟩

theorem wp_append_onto {o : Oper} {a : Act} {K : Act → World → Prop} {Q : Exit → Act → World → Prop} (s x : Operand) (t : TypeId)
    (ho : o.op = .call { callee := .builtin .append, args := #[s, x], argTypes := #[t, t] })
    (base : Nat) (e : TypeId) (i : TypeInfo) (z : Value) (bytes : Nat) (ht : P.underlying t = some (.slice e)) (hi : P.info? e = some i) (hz : i.zero = some z)
    (hsize : i.size = 1) (hby : i.bytes = bytes) (hzs : z.cells.size = 1)
    (A : Option Addr) (n c : Nat) (xs : List Value) (hs : a.eval s = .slice A n c) (hown : Fresh w base e A n c xs)
    (A2 : Option Addr) (m c2 : Nat) (news : List Value) (hx : a.eval x = .slice A2 m c2) (hl : news.length = m) (hr : ReadsAs w A2 news) (hnil : A2 = none → m = 0 ∧ c2 = 0) (h1 : ∀ u ∈ news, u.oneCell' = true)
    (h63 : n + m ≤ 1000000) (hbytes : (n + m) * bytes ≤ 140737488355328) (hbase : base ≤ w.heap.size)
    (h : ∀ A' c' w', Fresh w' base e A' (n + m) c' (xs ++ news) → Keep (fun k => ∃ o, A = some ⟨k, o, none⟩) w w' → K (a.put o.dst (.slice A' (n + m) c')) w') : o.wp P a w K Q := by
  obtain ⟨A', c', w', hrun, h2, h3⟩ := run_append_onto (P := P) w base t o.type e i z bytes ht hi hz hsize hby hzs A n c xs hown A2 m c2 news hl hr hnil h1 h63 hbytes hbase
  unfold Oper.wp execOp
  simp only [ho, resolve, invoke, builtin, Sem.run_bind, Sem.run_pure, Result.andThen_ok, List.map_toArray, List.map_cons, List.map_nil, hs, hx, hrun]
  exact h A' c' w' h2 h3

theorem wpList_append_onto1 {ops : Array Oper} {rest : List Oper} {o : Oper} {a : Act} {Q : Exit → Act → World → Prop} (hgd : o.guard = none) (s x : Operand) (t : TypeId)
    (ho : o.op = .call { callee := .builtin .append, args := #[s, x], argTypes := #[t, t] })
    (base : Nat) (e : TypeId) (i : TypeInfo) (z : Value) (bytes : Nat) (ht : P.underlying t = some (.slice e)) (hi : P.info? e = some i) (hz : i.zero = some z)
    (hsize : i.size = 1) (hby : i.bytes = bytes) (hzs : z.cells.size = 1)
    (A : Option Addr) (n c : Nat) (xs : List Value) (hs : a.eval s = .slice A n c) (hown : Fresh w base e A n c xs)
    (A2 : Option Addr) (m c2 : Nat) (news : List Value) (hx : a.eval x = .slice A2 m c2) (hl : news.length = m) (hr : ReadsAs w A2 news) (hnil : A2 = none → m = 0 ∧ c2 = 0) (h1 : ∀ u ∈ news, u.oneCell' = true)
    (h63 : n + m ≤ 1000000) (hbytes : (n + m) * bytes ≤ 140737488355328) (hbase : base ≤ w.heap.size)
    (h : ∀ A' c' w', Fresh w' base e A' (n + m) c' (xs ++ news) → Keep (fun k => ∃ o, A = some ⟨k, o, none⟩) w w' → wpList P ops Q rest (a.put o.dst (.slice A' (n + m) c')) w') : wpList P ops Q (o :: rest) a w :=
  wpList_plain hgd fun _ hK => wp_append_onto w s x t ho base e i z bytes ht hi hz hsize hby hzs A n c xs hs hown A2 m c2 news hx hl hr hnil h1 h63 hbytes hbase fun A' c' w' h2 h3 => hK _ _ (h A' c' w' h2 h3)

theorem step_append_onto {ops : Array Oper} {o : Oper} {a : Act} {K : Act → World → Prop} {Q : Exit → Act → World → Prop} {E : Prop} (hgd : o.guard = none) (s x : Operand) (t : TypeId)
    (ho : o.op = .call { callee := .builtin .append, args := #[s, x], argTypes := #[t, t] })
    (base : Nat) (e : TypeId) (i : TypeInfo) (z : Value) (bytes : Nat) (ht : P.underlying t = some (.slice e)) (hi : P.info? e = some i) (hz : i.zero = some z)
    (hsize : i.size = 1) (hby : i.bytes = bytes) (hzs : z.cells.size = 1)
    (A : Option Addr) (n c : Nat) (xs : List Value) (hs : a.eval s = .slice A n c) (hown : Fresh w base e A n c xs)
    (A2 : Option Addr) (m c2 : Nat) (news : List Value) (hx : a.eval x = .slice A2 m c2) (hl : news.length = m) (hr : ReadsAs w A2 news) (hnil : A2 = none → m = 0 ∧ c2 = 0) (h1 : ∀ u ∈ news, u.oneCell' = true)
    (h63 : n + m ≤ 1000000) (hbytes : (n + m) * bytes ≤ 140737488355328) (hbase : base ≤ w.heap.size)
    (h : ∀ A' c' w', Fresh w' base e A' (n + m) c' (xs ++ news) → Keep (fun k => ∃ o, A = some ⟨k, o, none⟩) w w' → K (a.put o.dst (.slice A' (n + m) c')) w') :
    if Region.wanted o (yielded ops a.tmps) = true then Oper.wp P o a w K Q else E := by
  have hw : Region.wanted o (yielded ops a.tmps) = true := by simp [Region.wanted, hgd]
  rw [if_pos hw]
  exact wp_append_onto w s x t ho base e i z bytes ht hi hz hsize hby hzs A n c xs hs hown A2 m c2 news hx hl hr hnil h1 h63 hbytes hbase h
end

theorem Fresh.made (w : World) (e : TypeId) {base : Nat} (hb : base ≤ w.heap.size) : Fresh (w.alloc (.cells #[] e)) base e (some ⟨w.heap.size, 0, none⟩) 0 0 [] :=
  World.ownsRow_made w #[] 0 hb (by unfold maxLen; omega) (by simp)
theorem Fresh.alloc {w : World} {base : Nat} {e : TypeId} {A : Option Addr} {n c : Nat} {xs : List Value} (h : Fresh w base e A n c xs) (o : Obj) : Fresh (w.alloc o) base e A n c xs := World.ownsRow.alloc h o
theorem Fresh.drew {w : World} {base : Nat} {e : TypeId} {A : Option Addr} {n c : Nat} {xs : List Value} (h : Fresh w base e A n c xs) : Fresh w.drew base e A n c xs := h
theorem Fresh.keep {w w' : World} {base : Nat} {e : TypeId} {A : Option Addr} {n c : Nat} {xs : List Value} {S : Nat → Prop} (h : Fresh w base e A n c xs) (hk : Keep S w w') (hs : ∀ b o, A = some ⟨b, o, none⟩ → ¬ S b) : Fresh w' base e A n c xs := by
  obtain ⟨h1, h2⟩ := h
  refine ⟨h1, ?_⟩
  rcases h2 with h2 | ⟨g, cap, cur, hv, hg, hh, hr⟩
  · exact .inl h2
  · injection hv with hv1 hv2 hv3
    subst hv1
    exact .inr ⟨g, cap, cur, by rw [hv3], hg, Blk.keep hh hk (hs g 0 rfl), hr⟩
end Go.Proofs.Ytimkbbdncajggaa
