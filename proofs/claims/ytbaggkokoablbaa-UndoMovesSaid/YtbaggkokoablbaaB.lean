/- Words for memory: blocks that are known whole, what a call keeps. -/
import Derived.WalkKit
import Derived.Deep.Draws
import Derived.Laws.Rows
import Derived.Lib.Hide
namespace Go.Proofs.Ytbaggkokoablbaa
open Go.RowKit

/-- Block g is just the cells cs of element type t, none frozen. -/
def Blk (w : World) (g : Nat) (t : TypeId) (cs : Array Value) : Prop := w.heap[g]? = some (.cells cs t (0, 0))

/-- What a call keeps: the streams, and every block that was there but those of S. -/
structure Keep (S : Nat → Prop) (w w' : World) : Prop where
  os : w'.os = w.os
  tape : w'.tape = w.tape
  output : w'.output = w.output
  size : w.heap.size ≤ w'.heap.size
  block : ∀ k, k < w.heap.size → ¬ S k → w'.heap[k]? = w.heap[k]?

section
variable {w w' w'' : World} {g : Nat} {t : TypeId} {cs : Array Value} {S T : Nat → Prop}
theorem Blk.lt (h : Blk w g t cs) : g < w.heap.size := by
  rcases Nat.lt_or_ge g w.heap.size with hlt | hge
  · exact hlt
  · unfold Blk at h; rw [Array.getElem?_eq_none hge] at h; cases h
theorem Blk.cell (h : Blk w g t cs) (i : Nat) : w.cell? ⟨g, i, none⟩ = cs[i]? := cell_of_row w g i cs t (0, 0) h
theorem Blk.frozen (h : Blk w g t cs) (i : Nat) : w.frozen? ⟨g, i, none⟩ = false := by
  unfold Blk at h
  simp [World.frozen?, h]
theorem Blk.new (w : World) (t : TypeId) (cs : Array Value) : Blk (w.alloc (.cells cs t)) w.heap.size t cs := heap_alloc_new w _
theorem Blk.drew (h : Blk w g t cs) : Blk w.drew g t cs := h
theorem Blk.drewN (h : Blk w g t cs) (n : Nat) : Blk (w.drewN n) g t cs := h
theorem Blk.alloc (h : Blk w g t cs) (o : Obj) : Blk (w.alloc o) g t cs := (Below.heap_alloc w o g h.lt).trans h
theorem Blk.set_ (h : Blk w g t cs) (i : Nat) (u : Value) : Blk (w.setCell ⟨g, i, none⟩ u) g t (cs.setIfInBounds i u) := by
  unfold Blk at h ⊢
  simp [World.setCell, Array.getElem?_modify, h]
theorem Blk.far (h : Blk w g t cs) {p : Addr} (hp : g ≠ p.block) (u : Value) : Blk (w.setCell p u) g t cs := (Below.heap_setCell w p u g hp).trans h
theorem Blk.keep (h : Blk w g t cs) (hk : Keep S w w') (hg : ¬ S g) : Blk w' g t cs := (hk.block g h.lt hg).trans h
theorem Blk.ne_ {g' : Nat} {t' : TypeId} {cs' : Array Value} (h : Blk w g t cs) (h' : Blk w g' t' cs') (hne : t ≠ t') : g ≠ g' := by
  rintro rfl
  unfold Blk at h h'
  rw [h] at h'
  injection h' with h'
  injection h' with _ ht
  exact hne ht

theorem Keep.refl (S : Nat → Prop) (w : World) : Keep S w w := ⟨rfl, rfl, rfl, Nat.le_refl _, fun _ _ _ => rfl⟩
theorem Keep.trans (h : Keep S w w') (k : Keep T w' w'') (hs : ∀ i, i < w.heap.size → T i → S i) : Keep S w w'' :=
  ⟨k.os.trans h.os, k.tape.trans h.tape, k.output.trans h.output, Nat.le_trans h.size k.size, fun i hi hn => (k.block i (Nat.lt_of_lt_of_le hi h.size) (fun ht => hn (hs i hi ht))).trans (h.block i hi hn)⟩
theorem Keep.mono (h : Keep S w w') (hs : ∀ i, i < w.heap.size → S i → T i) : Keep T w w' := ⟨h.os, h.tape, h.output, h.size, fun i hi hn => h.block i hi (fun ht => hn (hs i hi ht))⟩
theorem Keep.drew (h : Keep S w w') : Keep S w w'.drew := ⟨h.os, h.tape, h.output, h.size, h.block⟩
theorem Keep.drewN (h : Keep S w w') (n : Nat) : Keep S w (w'.drewN n) := ⟨h.os, h.tape, h.output, h.size, h.block⟩
theorem Keep.alloc (h : Keep S w w') (o : Obj) : Keep S w (w'.alloc o) :=
  h.trans (T := fun _ => False) ⟨rfl, rfl, rfl, by simp, fun k hk _ => Below.heap_alloc _ _ _ hk⟩ (fun _ _ h => h.elim)
theorem Keep.setCell (h : Keep S w w') {p : Addr} (hp : p.block < w.heap.size → S p.block) (u : Value) : Keep S w (w'.setCell p u) :=
  h.trans (T := fun k => k = p.block) ⟨rfl, rfl, rfl, by simp [World.setCell], fun k _ hn => Below.heap_setCell _ _ _ _ hn⟩ (fun i hi e => by subst e; exact hp hi)
theorem Keep.grown {row : Option Nat} (h : Keep S w w') (hg : w'.grownBy w'' row) (hr : ∀ k, row = some k → k < w.heap.size → S k) : Keep S w w'' :=
  h.trans (T := fun k => row = some k) ⟨hg.os, hg.tape, hg.output, hg.size, fun k hk hn => hg.block k hk (fun e => hn e.symm)⟩ (fun i hi e => hr i e hi)
theorem Keep.cell (h : Keep S w w') {p : Addr} (hp : p.block < w.heap.size) (hs : ¬ S p.block) : w'.cell? p = w.cell? p := World.cell?_of_block (h.block p.block hp hs)
theorem Keep.below (h : Keep (fun _ => False) w w') : Below w.heap.size w w' := ⟨h.os, h.tape, h.output, h.size, fun k hk => h.block k hk (fun h => h)⟩
end

/-- A log lies at block b: its states xs in block r (from some place on), it stands on number at_. -/
def LogAt {α : Type} (T E : TypeId) (V : α → Value) (w : World) (b r lim : Nat) (xs : List α) (at_ : Nat) (op : Int) : Prop :=
  ∃ (o c : Nat) (cur : Array Value), Blk w b T #[.int .i64 lim, .slice (some ⟨r, o, none⟩) xs.length c, .int .i64 at_, .int .i64 op] ∧ Blk w r E cur ∧ xs.length ≤ c ∧ at_ < xs.length ∧
    ∀ (i : Nat) (x : α), xs[i]? = some x → cur[o + i]? = some (V x)

section
variable {α : Type} {T E : TypeId} {V : α → Value} {w w' : World} {b r lim : Nat} {xs : List α} {at_ : Nat} {op : Int} {S : Nat → Prop}
theorem LogAt.open_ (h : LogAt T E V w b r lim xs at_ op) : ∃ (o c : Nat), Blk w b T #[.int .i64 lim, .slice (some ⟨r, o, none⟩) xs.length c, .int .i64 at_, .int .i64 op] ∧ xs.length ≤ c ∧ at_ < xs.length ∧
    ∀ (i : Nat) (x : α), xs[i]? = some x → w.cell? ⟨r, o + i, none⟩ = some (V x) := by
  obtain ⟨o, c, cur, h1, h2, h3, h4, h5⟩ := h
  exact ⟨o, c, h1, h3, h4, fun i x hi => (h2.cell _).trans (h5 i x hi)⟩
theorem LogAt.keep (h : LogAt T E V w b r lim xs at_ op) (hk : Keep S w w') (h1 : ¬ S b) (h2 : ¬ S r) : LogAt T E V w' b r lim xs at_ op := by
  obtain ⟨o, c, cur, hb, hr, h⟩ := h
  exact ⟨o, c, cur, hb.keep hk h1, hr.keep hk h2, h⟩
theorem LogAt.drewN (h : LogAt T E V w b r lim xs at_ op) (k : Nat) : LogAt T E V (w.drewN k) b r lim xs at_ op := h
theorem LogAt.step (h : LogAt T E V w b r lim xs at_ op) (hTE : T ≠ E) (to : Nat) (hto : to < xs.length) : LogAt T E V ((w.setCell ⟨b, 2, none⟩ (.int .i64 to)).setCell ⟨b, 3, none⟩ (.int .i64 0)) b r lim xs to 0 := by
  obtain ⟨o, c, cur, hb, hr, h1, h2, h3⟩ := h
  have e : r ≠ b := fun e => hb.ne_ hr hTE e.symm
  exact ⟨o, c, cur, (hb.set_ 2 _).set_ 3 _, (hr.far (p := ⟨b, 2, none⟩) e _).far (p := ⟨b, 3, none⟩) e _, h1, hto, h3⟩
theorem LogAt.new (T E : TypeId) (V : α → Value) (w : World) (first : α) (lim : Nat) :
    LogAt T E V ((w.alloc (.cells #[V first] E)).alloc (.cells #[.int .i64 lim, .slice (some ⟨w.heap.size, 0, none⟩) 1 1, .int .i64 0, .int .i64 0] T)) (w.heap.size + 1) w.heap.size lim [first] 0 0 := by
  have h1 : Blk (w.alloc (.cells #[V first] E)) w.heap.size E #[V first] := Blk.new _ _ _
  have h2 := Blk.new (w.alloc (.cells #[V first] E)) T #[.int .i64 lim, .slice (some ⟨w.heap.size, 0, none⟩) 1 1, .int .i64 0, .int .i64 0]
  rw [World.size_alloc] at h2
  refine ⟨0, 1, #[V first], h2, h1.alloc _, Nat.le_refl _, Nat.zero_lt_one, ?_⟩
  intro i x hi
  match i, hi with
  | 0, hi => simp at hi; subst hi; rfl
theorem LogAt.lt (h : LogAt T E V w b r lim xs at_ op) : b < w.heap.size ∧ r < w.heap.size := by
  obtain ⟨o, c, cur, hb, hr, h⟩ := h
  exact ⟨hb.lt, hr.lt⟩
theorem LogAt.ne (h : LogAt T E V w b r lim xs at_ op) (hTE : T ≠ E) : b ≠ r := by
  obtain ⟨o, c, cur, hb, hr, h⟩ := h
  exact hb.ne_ hr hTE
end

theorem cell_alloc_some {w : World} {a : Addr} {v : Value} (h : w.cell? a = some v) (o : Obj) : (w.alloc o).cell? a = some v :=
  (World.cell?_of_block (Below.heap_alloc w o a.block (World.block_lt_of_cell? w a h))).trans h

theorem cells_take {α : Type} {V : α → Value} {xs : List α} {w : World} {r o to : Nat} (h : ∀ (i : Nat) (x : α), xs[i]? = some x → w.cell? ⟨r, o + i, none⟩ = some (V x)) {j : Nat} {u : Value}
    (hu : ((xs.take to).map V)[j]? = some u) : w.cell? ⟨r, o + j, none⟩ = some u := by
  rw [List.getElem?_map, List.getElem?_take] at hu
  split at hu
  · cases hx : xs[j]? with
    | none => rw [hx] at hu; cases hu
    | some x =>
      rw [hx] at hu
      cases hu
      exact h j x hx
  · cases hu

/-- What New answers. -/
def NewPost {α : Type} (T E : TypeId) (V : α → Value) (w : World) (first : α) (limit : Int) (e : Ending) (w' : World) : Prop :=
  ∃ (b r lim : Nat), e = .returned (.pointer (some ⟨b, 0, none⟩)) ∧ LogAt T E V w' b r lim [first] 0 0 ∧ (lim : Int) = min (max limit 1) 256 ∧ w.heap.size ≤ b ∧ w.heap.size ≤ r ∧ Keep (fun _ => False) w w'

theorem newEnd {α : Type} (T E : TypeId) (V : α → Value) (w : World) (first : α) (limit x : Int) (hx : x = min (max limit 1) 256) :
    NewPost T E V w first limit (.returned (.pointer (some ⟨w.heap.size + 1, 0, none⟩))) ((w.alloc (.cells #[V first] E)).alloc (.cells #[.int .i64 x, .slice (some ⟨w.heap.size, 0, none⟩) 1 1, .int .i64 0, .int .i64 0] T)) := by
  obtain ⟨lim, rfl⟩ : ∃ lim : Nat, x = (lim : Int) := ⟨x.toNat, by omega⟩
  exact ⟨_, _, lim, rfl, LogAt.new T E V w first lim, hx, by omega, by omega, ((Keep.refl _ w).alloc _).alloc _⟩

/-- What Do answers where the state is another one. -/
def DoPost {α : Type} (T E : TypeId) (V : α → Value) (w : World) (b lim : Nat) (zs : List α) (at_ : Nat) (op : Int) (e : Ending) (w' : World) : Prop :=
  ∃ r' : Nat, e = .returned (.bool true) ∧ LogAt T E V w' b r' lim zs at_ op ∧ w.heap.size ≤ r' ∧ Keep (· = b) w w'

theorem doEnd {α : Type} {T E : TypeId} (hTE : T ≠ E) {V : α → Value} {w w1 : World} {b lim : Nat} {ys : List α} {to : Nat} {a1 a2 g : Int} {g1 cap1 m n2 c2 : Nat} {cur : Array Value} {u0 u1 u2 u3 : Value}
    (hy : ys.length = to + 1) (hb : Blk w1 b T #[u0, u1, u2, u3]) (h0 : u0 = .int .i64 lim) (hr : Blk w1 g1 E cur) (hcur : ∀ (j : Nat) (u : Value), (ys.map V)[j]? = some u → cur[j]? = some u) (hcap : to + 1 ≤ cap1)
    (hg1 : w.heap.size ≤ g1) (hk : Keep (fun _ => False) w w1) (v1 : Value)
    (hm : m = to - lim) (hn2 : n2 = to + 1 - m) (hc2 : c2 = cap1 - m) (ha : a1 = (min to lim : Nat)) (ho : a2 = max g 0) :
    DoPost T E V w b lim (ys.drop (to - lim)) (min to lim) (max g 0) (.returned (.bool true))
      ((((w1.setCell ⟨b, 1, none⟩ v1).setCell ⟨b, 1, none⟩ (.slice (some ⟨g1, m, none⟩) n2 c2)).setCell ⟨b, 2, none⟩ (.int .i64 a1)).setCell ⟨b, 3, none⟩ (.int .i64 a2)).drew := by
  subst h0 hm hn2 hc2 ha ho
  have e : g1 ≠ b := fun e => by subst e; exact hb.ne_ hr hTE rfl
  have hb4 := (((hb.set_ 1 v1).set_ 1 (.slice (some ⟨g1, to - lim, none⟩) (to + 1 - (to - lim)) (cap1 - (to - lim)))).set_ 2 (.int .i64 (min to lim : Nat))).set_ 3 (.int .i64 (max g 0))
  have hr4 := (((hr.far (p := ⟨b, 1, none⟩) e v1).far (p := ⟨b, 1, none⟩) e (.slice (some ⟨g1, to - lim, none⟩) (to + 1 - (to - lim)) (cap1 - (to - lim)))).far (p := ⟨b, 2, none⟩) e (.int .i64 (min to lim : Nat))).far (p := ⟨b, 3, none⟩) e (.int .i64 (max g 0))
  refine ⟨g1, rfl, ⟨to - lim, cap1 - (to - lim), cur, ?_, hr4.drew, ?_, ?_, ?_⟩, hg1, ?_⟩
  · have hl : (ys.drop (to - lim)).length = to + 1 - (to - lim) := by rw [List.length_drop, hy]
    rw [hl]
    exact hb4.drew
  · rw [List.length_drop, hy]; omega
  · rw [List.length_drop, hy]; omega
  · intro i x hi
    rw [List.getElem?_drop] at hi
    exact hcur _ _ (by rw [List.getElem?_map, hi]; rfl)
  · exact (((((hk.mono (T := (· = b)) (fun _ _ h => h.elim)).setCell (p := ⟨b, 1, none⟩) (fun _ => rfl) _).setCell (p := ⟨b, 1, none⟩) (fun _ => rfl) _).setCell (p := ⟨b, 2, none⟩) (fun _ => rfl) _).setCell (p := ⟨b, 3, none⟩) (fun _ => rfl) _).drew
end Go.Proofs.Ytbaggkokoablbaa
