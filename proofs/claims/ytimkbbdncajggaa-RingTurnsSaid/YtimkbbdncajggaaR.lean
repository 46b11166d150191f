/- A loop over an iterator that hands on memory of its own making: what the iterator gives, what the loop's body owes; said by Keep. -/
import Derived.RangeFuncNested
import Derived.RangeFuncBound
import Derived.RangeFuncCalls
import Derived.RangeFuncLeaves
import Derived.Shelf.Abstract
import Derived.Shelf.RegionOpen
import Derived.WalkKit
import Derived.OwnWalkIn
import Derived.TacticsInMore
import Derived.LoopNIn
import Derived.LoopIn
import Derived.Test.YtimkbbdncajggaaB
namespace Go.Proofs.Ytimkbbdncajggaa
open Go.RowKit
/-- Only blocks from B on that hold no cells have turned. -/
def Turns (B : Nat) (w w' : World) : Prop := Keep (fun k => B ≤ k ∧ ∃ o : Obj, w.heap[k]? = some o ∧ o.isCells = false) w w'
theorem Turns.new {B : Nat} {w w' : World} (h : Keep (fun _ => False) w w') : Turns B w w' := h.mono (fun _ _ h => h.elim)
theorem Turns.put {B l : Nat} {w : World} {o o' : Obj} (hB : B ≤ l) (hl : w.heap[l]? = some o) (ho : o.isCells = false) : Turns B w (w.putObj l o') :=
  ⟨rfl, rfl, rfl, by simp, fun k _ hn => World.putObj_heap_other (fun e => hn (by subst e; exact ⟨hB, o, hl, ho⟩))⟩
theorem Turns.heap {B : Nat} {w w' : World} (h : Turns B w w') {k : Nat} {o : Obj} (hk : w.heap[k]? = some o) (ho : o.isCells = true) : w'.heap[k]? = some o := by
  refine (h.block k (Array.getElem?_eq_some_iff.1 hk).1 ?_).trans hk
  rintro ⟨_, o', ho', hc⟩
  rw [hk] at ho'
  cases ho'
  rw [ho] at hc
  cases hc
theorem Turns.blk {B : Nat} {w w' : World} (h : Turns B w w') {g : Nat} {t : TypeId} {cs : Array Value} (hb : Blk w g t cs) : Blk w' g t cs := Turns.heap h hb rfl
theorem Turns.cell {B : Nat} {w w' : World} (h : Turns B w w') {p : Addr} {v : Value} (hc : w.cell? p = some v) : w'.cell? p = some v := by
  obtain ⟨o, ho, hk⟩ := cells_of_cell hc
  exact (World.cell?_of_block ((h.heap ho hk).trans ho.symm)).trans hc
theorem Turns.reads {B : Nat} {w w' : World} (h : Turns B w w') {A : Option Addr} {xs : List Value} (hr : ReadsAs w A xs) : ReadsAs w' A xs := by
  intro i u hu
  obtain ⟨b, o, hA, hc⟩ := hr i u hu
  exact ⟨b, o, hA, h.cell hc⟩
theorem Turns.fresh {B : Nat} {w w' : World} (h : Turns B w w') {base : Nat} {e : TypeId} {A : Option Addr} {n c : Nat} {xs : List Value} (hF : Fresh w base e A n c xs) : Fresh w' base e A n c xs := by
  refine ⟨hF.1, ?_⟩
  rcases hF.2 with h0 | ⟨g, cap, cur, hv, hg, hh, hr⟩
  · exact .inl h0
  · exact .inr ⟨g, cap, cur, hv, hg, Turns.blk h hh, hr⟩
theorem Turns.keep {B : Nat} {S : Nat → Prop} {w0 w w' : World} (h : Turns B w w') (hk : Keep S w0 w) (hB : w0.heap.size ≤ B) : Keep S w0 w' :=
  hk.trans h (fun i hi hh => absurd hh.1 (by omega))
/-- What an iterator gives: it hands on x where Hd holds of it, in a world behind; a round may turn the blocks T alone. -/
def Gives {α : Type} (P : Program) (g : Nat) (lb : Array Value) (encs : α → Array Value) (T : Nat → Prop) (Hd : List α → α → World → Prop) (S Sp : List α → Prop) (w : World) : Prop :=
  ∀ (l : Nat) (J Jx : List α → World → Prop) (W : World), w.heap.size ≤ l → l < W.heap.size → Keep (fun _ => False) w W →
    (∀ s A B, J s A → Keep (fun _ => False) A B → J s B) → (∀ s A B, Jx s A → Keep (fun _ => False) A B → Jx s B) →
    (∀ pre x W1, J pre W1 → Hd pre x W1 → YieldAt Fence.wide 0 P l (encs x) W1 fun e W' => Keep (fun k => T k ∨ k = l) W1 W' ∧ ((e = .returned (.bool true) ∧ J (pre ++ [x]) W') ∨ (e = .returned (.bool false) ∧ Jx (pre ++ [x]) W'))) →
    J [] W → Calls P g (#[.func (.yield l) #[] #[]] ++ lb) W fun e W' => (∃ v, e = .returned v) ∧ ((∃ xs, S xs ∧ J xs W') ∨ (∃ pre, Sp pre ∧ Jx pre W'))
/-- How a round's body may be left. -/
def roundEnd {α : Type} (T : Nat → Prop) (I : List α → World → Prop) (Ix : Code → List α → World → Prop) (xs : List α) (W : World) : Exit → Act → World → Prop
  | .normal, _, W' => Keep T W W' ∧ I xs W'
  | .ret, _, W' => Keep T W W' ∧ Ix .ret xs W'
  | .exit id, _, W' => Keep T W W' ∧ Ix (.exit id) xs W'
  | .goto t, _, W' => Keep T W W' ∧ Ix (.goto t) xs W'
  | .panic _, _, _ => False
  | .outgrown, _, _ => False
theorem wp_range {α : Type} {P : Program} {g : Operand} {ps : Array Tmp} {assign body : Code} {Q : Exit → Act → World → Prop} {a : Act} {w : World} {gf : Nat} {lb : Array Value}
    (hg : a.eval g = .func (.func gf) #[] lb) (eg : ∀ args w, (callFunc gf args).run P w = .ok (.enter gf args) w)
    {encs : α → Array Value} {T : Nat → Prop} {Hd : List α → α → World → Prop} {S Sp : List α → Prop} (hseq : Gives P gf lb encs T Hd S Sp w) (hps : ∀ x, (encs x).size = ps.size)
    (hTD : ¬ T w.heap.size) (hTl : ¬ T (w.heap.size + 1))
    (I : List α → World → Prop) (Ix : Code → List α → World → Prop) (hI : ∀ s A B, I s A → Turns w.heap.size A B → I s B) (hIx : ∀ c s A B, Ix c s A → Turns w.heap.size A B → Ix c s B)
    (hHd : ∀ pre x A B, Hd pre x A → Turns w.heap.size A B → Hd pre x B) (h0 : I [] w) (a₁ : α → Act)
    (hassign : ∀ (l : Nat) (x : α) (W : World) (K : Act → World → Prop), K (a₁ x) W →
      assign.wpIn (Fence.wide.inRound l) 0 P (Exit.then K (fun _ _ _ => False)) { tmps := (ps.zip (encs x)).foldl (fun t (p, v) => t.setIfInBounds p v) a.tmps, defers := [] } W)
    (hbody : ∀ (l : Nat) (pre : List α) (x : α) (W : World), I pre W → Hd pre x W → w.heap.size + 1 < W.heap.size → body.wpIn (Fence.wide.inRound l) 0 P (roundEnd T I Ix (pre ++ [x]) W) (a₁ x) W)
    (hdone : ∀ (D : Nat) (xs : List α) (W : World), w.heap.size ≤ D → S xs → I xs W → W.heap[D]? = some (.deferred (some [])) → Q .normal { a with defers := { target := .collected D, args := #[] } :: a.defers } W)
    (hstop : ∀ (D : Nat) (c : Code) (pre : List α) (W : World), w.heap.size ≤ D → Sp pre → Ix c pre W → W.heap[D]? = some (.deferred (some [])) → c.wp P Q { a with defers := { target := .collected D, args := #[] } :: a.defers } W) :
    (Code.rangeFunc g ps assign body).wp P Q a w := by
  refine (wpIn_wide (n := 0)).1 (wpIn_rangeFunc ?_)
  intro fn _
  have hrec : ∃ r : Loop, r = { state := .ready, pending := none, fn, tmps := a.tmps, params := ps, assign, body, defers := w.heap.size } := ⟨_, rfl⟩
  obtain ⟨r, hr⟩ := hrec
  have hW1 : ∃ W1, W1 = (w.alloc (.deferred (some []))).alloc (.loop r) := ⟨_, rfl⟩
  obtain ⟨W1, hW1⟩ := hW1
  have kW1 : Keep (fun _ => False) w W1 := by rw [hW1]; exact ((Keep.refl _ w).alloc _).alloc _
  have sW1 : W1.heap.size = w.heap.size + 1 + 1 := by rw [hW1]; simp
  have lW1 : W1.heap[w.heap.size + 1]? = some (.loop r) := by
    rw [hW1]
    have := World.alloc_heap_new (w.alloc (.deferred (some []))) (.loop r)
    rwa [World.size_alloc] at this
  have dW1 : W1.heap[w.heap.size]? = some (.deferred (some [])) := by
    rw [hW1]
    exact (Below.heap_alloc _ _ _ (by simp)).trans (World.alloc_heap_new w _)
  have hent : (Instr.enterLoop fn a.tmps ps assign body none).run P w = .ok (w.heap.size + 1, [{ target := .collected w.heap.size, args := #[] }]) W1 := by
    rw [hW1, hr]
    exact run_enterLoop_outer _ _ _ _ _
  -- what the two blocks of book-keeping hold between two rounds
  have hgr : ∀ {k : Nat} {o : Obj} {A B : World}, A.heap[k]? = some o → Keep (fun _ => False) A B → B.heap[k]? = some o := fun hk hAB => (hAB.block _ (Array.getElem?_eq_some_iff.1 hk).1 (fun h => h)).trans hk
  refine ⟨w.heap.size + 1, [{ target := .collected w.heap.size, args := #[] }], W1, { target := .fn (.func gf) lb, args := #[.func (.yield (w.heap.size + 1)) #[] #[]] }, W1, gf,
    #[.func (.yield (w.heap.size + 1)) #[] #[]] ++ lb, W1, hent, ?_, fun _ _ => trivial, ?_, fun h => by simp [Fence.wide] at h, ?_⟩
  · simp only [resolve, hg]
    simp [go_sem]
  · simp [invoke, go_sem, eg]
  refine callsIn_wide.2 ((hseq (w.heap.size + 1)
    (fun pre W => I pre W ∧ W.heap[w.heap.size + 1]? = some (.loop r) ∧ W.heap[w.heap.size]? = some (.deferred (some [])))
    (fun pre W => ∃ c, Ix c pre W ∧ W.heap[w.heap.size + 1]? = some (.loop { r with state := .done, pending := some c }) ∧ W.heap[w.heap.size]? = some (.deferred (some [])))
    W1 (by omega) (by omega) kW1 (fun s A B hs hAB => ⟨hI s A B hs.1 (Turns.new hAB), hgr hs.2.1 hAB, hgr hs.2.2 hAB⟩)
    (fun s A B hs hAB => by obtain ⟨c, h1, h2, h3⟩ := hs; exact ⟨c, hIx c s A B h1 (Turns.new hAB), hgr h2 hAB, hgr h3 hAB⟩)
    ?_ ⟨hI _ _ _ h0 (Turns.new kW1), lW1, dW1⟩).mono ?_)
  · -- one round
    rintro pre x W ⟨hi, hl, hd⟩ hx
    have hlt : w.heap.size + 1 < W.heap.size := (Array.getElem?_eq_some_iff.1 hl).1
    have hy := run_yield (P := P) (args := encs x) hl (by rw [hr]; exact hps x)
    rw [hr] at hy
    dsimp only at hy
    refine ⟨fn, _, assign, body, hy, roundIn_of_wpIn trivial (hassign _ x W _ ⟨_, run_beginRound hl (by rw [hr]), ?_⟩)⟩
    have t2 : Turns w.heap.size W (W.putObj (w.heap.size + 1) (.loop { r with state := .busy })) := Turns.put (by omega) hl rfl
    have l2 : (W.putObj (w.heap.size + 1) (.loop { r with state := .busy })).heap[w.heap.size + 1]? = some (.loop { r with state := .busy }) := World.putObj_heap_same hlt
    have d2 : (W.putObj (w.heap.size + 1) (.loop { r with state := .busy })).heap[w.heap.size]? = some (.deferred (some [])) := (World.putObj_heap_other (by omega)).trans hd
    have k2 : Keep (fun k => T k ∨ k = w.heap.size + 1) W (W.putObj (w.heap.size + 1) (.loop { r with state := .busy })) := ⟨rfl, rfl, rfl, by simp, fun k _ hn => World.putObj_heap_other (fun e => hn (Or.inr e))⟩
    have z2 : w.heap.size + 1 < (W.putObj (w.heap.size + 1) (.loop { r with state := .busy })).heap.size := by rw [World.putObj_size]; exact hlt
    have i2 := hI _ _ _ hi t2
    have x2 := hHd _ _ _ _ hx t2
    generalize W.putObj (w.heap.size + 1) (.loop { r with state := .busy }) = W2 at *
    refine wpIn_mono (hbody _ pre x W2 i2 x2 z2) ?_
    have fin : ∀ (jump : Option Code) (W3 : World), Keep T W2 W3 →
        (Instr.endRound (w.heap.size + 1) jump).run P W3 = .ok (.bool jump.isNone) (W3.putObj (w.heap.size + 1) (.loop { r with state := if jump.isNone then .ready else .done, pending := jump })) ∧
        Turns w.heap.size W3 (W3.putObj (w.heap.size + 1) (.loop { r with state := if jump.isNone then .ready else .done, pending := jump })) ∧
        (W3.putObj (w.heap.size + 1) (.loop { r with state := if jump.isNone then .ready else .done, pending := jump })).heap[w.heap.size + 1]? = some (.loop { r with state := if jump.isNone then .ready else .done, pending := jump }) ∧
        (W3.putObj (w.heap.size + 1) (.loop { r with state := if jump.isNone then .ready else .done, pending := jump })).heap[w.heap.size]? = some (.deferred (some [])) ∧
        Keep (fun k => T k ∨ k = w.heap.size + 1) W (W3.putObj (w.heap.size + 1) (.loop { r with state := if jump.isNone then .ready else .done, pending := jump })) := by
      intro jump W3 k3
      have l3 : W3.heap[w.heap.size + 1]? = some (.loop { r with state := .busy }) := (k3.block _ (Array.getElem?_eq_some_iff.1 l2).1 hTl).trans l2
      have d3 : W3.heap[w.heap.size]? = some (.deferred (some [])) := (k3.block _ (Array.getElem?_eq_some_iff.1 d2).1 hTD).trans d2
      refine ⟨run_endRound (P := P) (r := { r with state := .busy }) jump l3, Turns.put (by omega) l3 rfl, World.putObj_heap_same (Array.getElem?_eq_some_iff.1 l3).1, (World.putObj_heap_other (by omega)).trans d3, ?_⟩
      exact (k2.trans k3 (fun _ _ h => Or.inl h)).trans (T := fun k => k = w.heap.size + 1) ⟨rfl, rfl, rfl, by simp, fun k _ hn => World.putObj_heap_other hn⟩ (fun _ _ h => Or.inr h)
    have hrr : ({ r with state := if (none : Option Code).isNone then LoopState.ready else .done, pending := none } : Loop) = r := by rw [hr]; rfl
    rintro e a3 W3 hp
    cases e with
    | normal =>
      obtain ⟨k3, i3⟩ := hp
      obtain ⟨f1, f2, f3, f4, f5⟩ := fin none W3 k3
      rw [hrr] at f1 f2 f3 f4 f5
      exact ⟨_, _, f1, f5, .inl ⟨rfl, hI _ _ _ i3 f2, f3, f4⟩⟩
    | ret =>
      obtain ⟨k3, i3⟩ := hp
      obtain ⟨f1, f2, f3, f4, f5⟩ := fin (some .ret) W3 k3
      exact ⟨_, _, f1, f5, .inr ⟨rfl, .ret, hIx _ _ _ _ i3 f2, f3, f4⟩⟩
    | exit id =>
      obtain ⟨k3, i3⟩ := hp
      obtain ⟨f1, f2, f3, f4, f5⟩ := fin (some (.exit id)) W3 k3
      exact ⟨_, _, f1, f5, .inr ⟨rfl, .exit id, hIx _ _ _ _ i3 f2, f3, f4⟩⟩
    | goto t =>
      obtain ⟨k3, i3⟩ := hp
      obtain ⟨f1, f2, f3, f4, f5⟩ := fin (some (.goto t)) W3 k3
      exact ⟨_, _, f1, f5, .inr ⟨rfl, .goto t, hIx _ _ _ _ i3 f2, f3, f4⟩⟩
    | panic ch => exact hp.elim
    | outgrown => exact hp.elim
  · -- behind the iterator
    rintro e W2 ⟨⟨v, rfl⟩, ⟨xs, hS, hi, hl, hd⟩ | ⟨pre, hSp, c, hi, hl, hd⟩⟩
    · have he := run_endLoop (P := P) hl (by rw [hr]; simp)
      rw [show r.pending = none by rw [hr]] at he
      exact ⟨none, _, he, hdone _ xs _ (Nat.le_refl _) hS (hI _ _ _ hi (Turns.put (by omega) hl rfl)) ((World.putObj_heap_other (by omega)).trans hd)⟩
    · refine ⟨some c, _, run_endLoop (P := P) hl (by simp), wpIn_wide.2 (hstop _ c pre _ (Nat.le_refl _) hSp (hIx _ _ _ _ hi (Turns.put (by omega) hl rfl)) ((World.putObj_heap_other (by omega)).trans hd))⟩
end Go.Proofs.Ytimkbbdncajggaa
