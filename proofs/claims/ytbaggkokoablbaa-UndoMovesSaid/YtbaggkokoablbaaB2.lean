/- An append that makes a new row, told by what it leaves. -/
import Derived.Test.YtbaggkokoablbaaB
import Derived.WalkSpells
import Derived.ArgAppend
import Derived.Maps.AppendAt
import Derived.StillTailTactics
import Derived.Deep.QuietTactic
import Derived.BigQuiet
namespace Go.Proofs.Ytbaggkokoablbaa
open Go.RowKit

theorem add_off (r o j : Nat) : (⟨r, o, none⟩ : Addr).add j = ⟨r, o + j, none⟩ := by
  unfold Addr.add
  split
  · next h => subst h; rfl
  · rfl

/-- 'append(s, x)' of one cell where there is no room: a new row. -/
theorem append_new1 {P : Program} (w : World) {ops : Array Oper} {rest : List Oper} {o : Oper} {a : Act} {Q : Exit → Act → World → Prop}
    (hg : o.guard = none) (s x : Operand) (t : TypeId) (hop : o.op = Op.call { callee := Callee.builtin Builtin.append, args := #[s, x], argTypes := #[t, t] })
    (e : TypeId) (i : TypeInfo) (z : Value) (bytes : Nat) (h1 : P.underlying t = some (.slice e)) (h2 : P.info? e = some i) (h3 : i.zero = some z) (h4 : i.size = 1) (h5 : i.bytes = bytes) (h6 : z.cells.size = 1)
    (r off n cap : Nat) (olds : List Value) (hs : a.eval s = .slice (some ⟨r, off, none⟩) n cap) (hlo : olds.length = n) (holds : ∀ j u, olds[j]? = some u → w.cell? ⟨r, off + j, none⟩ = some u)
    (k c : Nat) (v : Value) (hx : a.eval x = .slice (some ⟨k, 0, none⟩) 1 c) (hc : w.cell? ⟨k, 0, none⟩ = some v) (h1c : v.oneCell' = true)
    (hfull : cap < n + 1) (b2 : (n + 1) * bytes ≤ 140737488355328) (b3 : n ≤ 1000000)
    (hK : ∀ (g cap' : Nat) (cur : Array Value) (w' : World), w.heap.size ≤ g → n + 1 ≤ cap' → Blk w' g e cur → (∀ (j : Nat) (u : Value), (olds ++ [v])[j]? = some u → cur[j]? = some u) → Keep (fun _ => False) w w' →
      wpList P ops Q rest (a.put o.dst (.slice (some ⟨g, 0, none⟩) (n + 1) cap')) w') :
    wpList P ops Q (o :: rest) a w := by
  refine wpList_append_grows w hg s x t hop e i z 1 bytes h1 h2 h3 h4 h5 h6 (by omega) (some ⟨r, off, none⟩) n cap olds hs (fun h => by cases h) (by omega) ?_ ⟨k, 0, none⟩ 1 c [v] hx rfl ?_ ?_ hfull (by unfold maxLen; omega) b2 ?_
  · rintro b hb j u hu
    cases hb
    rw [add_off]
    exact holds j u hu
  · intro j u hu
    rw [add_off]
    match j, hu with
    | 0, hu => simp at hu; subst hu; exact hc
  · intro u hu
    simp at hu
    subst hu
    exact h1c
  · intro v' w' hown hgr
    rcases hown.2 with ⟨_, h0⟩ | ⟨g, cap', cur, rfl, hg', hh, hnc, hcm, hsz, htk⟩
    · omega
    · refine hK g cap' cur w' hg' hnc hh ?_ ((Keep.refl _ w).grown hgr (fun k h => by cases h))
      intro j u hu
      rw [← htk] at hu
      rw [List.getElem?_take] at hu
      split at hu
      · simpa using hu
      · cases hu

theorem still_of_quiet {P : Program} {o : Oper} {a : Act} {w : World} {K : Act → Prop} (h : o.quiet P a (fun w' => w' = w) K) : o.still P a w K := by
  obtain ⟨v, h1, h2⟩ := h
  have h3 := h1 w rfl
  unfold Oper.quietAt at h3
  unfold Oper.still
  generalize (execOp a.eval o).run P w = r at *
  cases r with
  | ok n w' =>
    cases n <;> simp only [Oper.quietUpon] at h3 <;> simp only [Oper.stillUpon]
    case value u =>
      obtain ⟨e1, e2⟩ := h3
      rw [← e2] at h2
      exact ⟨e1, h2⟩
    case skip =>
      obtain ⟨e1, e2⟩ := h3
      rw [e2] at h2
      exact ⟨e1, h2⟩
    case enter f args =>
      obtain ⟨e1, hc⟩ := h3
      exact ⟨e1, v, hc, h2⟩
  | halt x w' => simp only [Oper.quietUpon] at h3

theorem wpStill_of_quiet {P : Program} {ops : Array Oper} {w : World} {Q : Act → Prop} : ∀ (l : List Oper) (a : Act), wpQuiet P ops (fun w' => w' = w) Q l a → wpStill P ops w Q l a
  | [], _, h => h
  | o :: l, a, h => by
    unfold wpQuiet at h
    unfold wpStill
    split
    · next hw =>
      rw [if_pos hw] at h
      exact still_of_quiet (Oper.quiet_mono (fun a' => wpStill_of_quiet l a') h)
    · next hw =>
      rw [if_neg hw] at h
      exact wpStill_of_quiet l _ h

/-- A region that draws its order: its head reads, its tail is carried out in the text's order. -/
theorem region_tail {P : Program} {id : Nat} {Q : Exit → Act → World → Prop} {a : Act} {w : World} {l : List Oper} (n : Nat) (hm : P.follows .mixedOrders = true) (hB : Region.lexTailB .any l.toArray n = true)
    (h : wpQuiet P l.toArray (fun w' => w' = w.drew) (fun a' => wpList P l.toArray Q (l.drop n) a' w.drew) (l.take n) a) : (Code.region id l.toArray true).wp P Q a w :=
  wp_region_still_tail n hm hB (wpStill_of_quiet _ _ h)
end Go.Proofs.Ytbaggkokoablbaa
