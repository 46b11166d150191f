/- Appends to a row of the call's own, told by what they leave. -/
import Derived.Test.YtbaggkokoablbaaB2
import Derived.Laws.AppendOwnNone
import Derived.RegionTactic
namespace Go.Proofs.Ytbaggkokoablbaa
open Go.RowKit

/-- A slice value that reads as the values xs (one cell each), in the block that it names. -/
def ReadsAs (w : World) (A : Option Addr) (xs : List Value) : Prop :=
  ∀ (i : Nat) (u : Value), xs[i]? = some u → ∃ b o, A = some ⟨b, o, none⟩ ∧ w.cell? ⟨b, o + i, none⟩ = some u

/-- A row of the call's own that holds just xs: a new row, nothing else points into it. -/
def Fresh (w : World) (base : Nat) (e : TypeId) (A : Option Addr) (n c : Nat) (xs : List Value) : Prop := w.ownsRow base e 1 (.slice A n c) n xs

theorem Fresh.reads {w : World} {base : Nat} {e : TypeId} {A : Option Addr} {n c : Nat} {xs : List Value} (h : Fresh w base e A n c xs) : ReadsAs w A xs := by
  intro i u hu
  rcases h.2 with ⟨hv, h0⟩ | ⟨g, cap, cur, hv, hg, hh, hnc, hcm, hsz, htk⟩
  · subst h0
    have : xs = [] := List.eq_nil_of_length_eq_zero (by simpa using h.1)
    subst this
    simp at hu
  · injection hv with h1 h2 h3
    subst h1
    refine ⟨g, 0, rfl, ?_⟩
    have hB : Blk w g e cur := hh
    rw [Nat.zero_add, hB.cell]
    rw [← htk, List.getElem?_take] at hu
    split at hu
    · simpa using hu
    · cases hu

theorem Fresh.block {w : World} {base : Nat} {e : TypeId} {A : Option Addr} {n c : Nat} {xs : List Value} (h : Fresh w base e A n c xs) : ∀ b o, A = some ⟨b, o, none⟩ → base ≤ b ∧ b < w.heap.size := by
  intro b o hA
  subst hA
  exact h.lt b rfl

theorem ReadsAs.keep {w w' : World} {A : Option Addr} {xs : List Value} {S : Nat → Prop} (h : ReadsAs w A xs) (hk : Keep S w w') (hs : ∀ b o, A = some ⟨b, o, none⟩ → ¬ S b) : ReadsAs w' A xs := by
  intro i u hu
  obtain ⟨b, o, hA, hc⟩ := h i u hu
  exact ⟨b, o, hA, (World.cell?_of_block (hk.block b (World.block_lt_of_cell? w _ hc) (hs b o hA))).trans hc⟩

section
variable {P : Program} (w : World)

/-- 'append(s, x...)' onto a row of the call's own, whatever the source is (nil, too). -/
theorem run_append_onto (base : Nat) (t ty e : TypeId) (i : TypeInfo) (z : Value) (bytes : Nat) (ht : P.underlying t = some (.slice e)) (hi : P.info? e = some i) (hz : i.zero = some z)
    (hsize : i.size = 1) (hby : i.bytes = bytes) (hzs : z.cells.size = 1)
    (A : Option Addr) (n c : Nat) (xs : List Value) (hown : Fresh w base e A n c xs)
    (A2 : Option Addr) (m c2 : Nat) (news : List Value) (hl : news.length = m) (hr : ReadsAs w A2 news) (hnil : A2 = none → m = 0 ∧ c2 = 0) (h1 : ∀ u ∈ news, u.oneCell' = true)
    (h63 : n + m ≤ 1000000) (hbytes : (n + m) * bytes ≤ 140737488355328) (hbase : base ≤ w.heap.size) :
    ∃ A' c' w', (Builtin.append_ #[t, t] ty #[.slice A n c, .slice A2 m c2]).run P w = .ok (.slice A' (n + m) c') w' ∧ Fresh w' base e A' (n + m) c' (xs ++ news) ∧ Keep (fun k => ∃ o, A = some ⟨k, o, none⟩) w w' := by
  cases hA2 : A2 with
  | none =>
    obtain ⟨rfl, rfl⟩ := hnil hA2
    have hn : news = [] := List.eq_nil_of_length_eq_zero hl
    subst hn
    have hrun := run_append_owned_none (P := P) (w := w) base t ty e i 1 ht hi (.slice A n c) n xs hown
    exact ⟨A, c, w, hrun, by simpa using hown, Keep.refl _ w⟩
  | some ad =>
    subst hA2
    have hcells : ∀ j u, news[j]? = some u → w.cell? (ad.add j) = some u := by
      intro j u hu
      obtain ⟨b, o, hA, hc⟩ := hr j u hu
      injection hA with hA
      subst hA
      rw [add_off]
      exact hc
    obtain ⟨v', w', hrun, hown', hg, _, _⟩ := run_append_own_at (P := P) w base t ty e i z 1 bytes ht hi hz hsize hby hzs (by omega) (.slice A n c) n xs hown ad m c2 news (by omega) hcells h1 (by unfold maxLen; omega) hbytes hbase
    have hform : ∃ A' c', v' = .slice A' (n + m) c' := by
      rcases hown'.2 with ⟨hv, h0⟩ | ⟨g, cap, cur, hv, _⟩
      · exact ⟨none, 0, by rw [hv, h0]⟩
      · exact ⟨_, _, hv⟩
    obtain ⟨A', c', rfl⟩ := hform
    refine ⟨A', c', w', hrun, hown', (Keep.refl _ w).grown hg ?_⟩
    intro k hk _
    rcases hown.2 with ⟨hv, _⟩ | ⟨g, cap, cur, hv, _⟩
    · rw [hv] at hk; cases hk
    · injection hv with hv1 hv2 hv3
      subst hv1
      have : g = k := by simpa [Value.ownBlock] using hk
      subst this
      exact ⟨0, rfl⟩

theorem wp_append_onto {o : Oper} {a : Act} {K : Act → World → Prop} {Q : Exit → Act → World → Prop} (s x : Operand) (t : TypeId)
    (ho : o.op = .call { callee := .builtin .append, args := #[s, x], argTypes := #[t, t] })
    (base : Nat) (e : TypeId) (i : TypeInfo) (z : Value) (bytes : Nat) (ht : P.underlying t = some (.slice e)) (hi : P.info? e = some i) (hz : i.zero = some z)
    (hsize : i.size = 1) (hby : i.bytes = bytes) (hzs : z.cells.size = 1)
    (A : Option Addr) (n c : Nat) (xs : List Value) (hs : a.eval s = .slice A n c) (hown : Fresh w base e A n c xs)
    (A2 : Option Addr) (m c2 : Nat) (news : List Value) (hx : a.eval x = .slice A2 m c2) (hl : news.length = m) (hr : ReadsAs w A2 news) (hnil : A2 = none → m = 0 ∧ c2 = 0) (h1 : ∀ u ∈ news, u.oneCell' = true)
    (h63 : n + m ≤ 1000000) (hbytes : (n + m) * bytes ≤ 140737488355328) (hbase : base ≤ w.heap.size)
    (h : ∀ A' c' w', Fresh w' base e A' (n + m) c' (xs ++ news) → Keep (fun k => ∃ o, A = some ⟨k, o, none⟩) w w' → K (a.put o.dst (.slice A' (n + m) c')) w') : o.wp P a w K Q := by
  obtain ⟨A', c', w', hrun, h2, h3⟩ := run_append_onto (P := P) w base t o.type e i z bytes ht hi hz hsize hby hzs A n c xs hown A2 m c2 news hl hr hnil h1 h63 hbytes hbase
  unfold Oper.wp execOp
  simp only [ho, resolve, invoke, builtin, Sem.run_bind, Sem.run_pure, Result.andThen_ok, List.map_toArray, List.map_cons, List.map_nil, hs, hx, hrun]
  exact h A' c' w' h2 h3

theorem wpList_append_onto1 {ops : Array Oper} {rest : List Oper} {o : Oper} {a : Act} {Q : Exit → Act → World → Prop} (hgd : o.guard = none) (s x : Operand) (t : TypeId)
    (ho : o.op = .call { callee := .builtin .append, args := #[s, x], argTypes := #[t, t] })
    (base : Nat) (e : TypeId) (i : TypeInfo) (z : Value) (bytes : Nat) (ht : P.underlying t = some (.slice e)) (hi : P.info? e = some i) (hz : i.zero = some z)
    (hsize : i.size = 1) (hby : i.bytes = bytes) (hzs : z.cells.size = 1)
    (A : Option Addr) (n c : Nat) (xs : List Value) (hs : a.eval s = .slice A n c) (hown : Fresh w base e A n c xs)
    (A2 : Option Addr) (m c2 : Nat) (news : List Value) (hx : a.eval x = .slice A2 m c2) (hl : news.length = m) (hr : ReadsAs w A2 news) (hnil : A2 = none → m = 0 ∧ c2 = 0) (h1 : ∀ u ∈ news, u.oneCell' = true)
    (h63 : n + m ≤ 1000000) (hbytes : (n + m) * bytes ≤ 140737488355328) (hbase : base ≤ w.heap.size)
    (h : ∀ A' c' w', Fresh w' base e A' (n + m) c' (xs ++ news) → Keep (fun k => ∃ o, A = some ⟨k, o, none⟩) w w' → wpList P ops Q rest (a.put o.dst (.slice A' (n + m) c')) w') : wpList P ops Q (o :: rest) a w :=
  wpList_plain hgd fun _ hK => wp_append_onto w s x t ho base e i z bytes ht hi hz hsize hby hzs A n c xs hs hown A2 m c2 news hx hl hr hnil h1 h63 hbytes hbase fun A' c' w' h2 h3 => hK _ _ (h A' c' w' h2 h3)

theorem step_append_onto {ops : Array Oper} {o : Oper} {a : Act} {K : Act → World → Prop} {Q : Exit → Act → World → Prop} {E : Prop} (hgd : o.guard = none) (s x : Operand) (t : TypeId)
    (ho : o.op = .call { callee := .builtin .append, args := #[s, x], argTypes := #[t, t] })
    (base : Nat) (e : TypeId) (i : TypeInfo) (z : Value) (bytes : Nat) (ht : P.underlying t = some (.slice e)) (hi : P.info? e = some i) (hz : i.zero = some z)
    (hsize : i.size = 1) (hby : i.bytes = bytes) (hzs : z.cells.size = 1)
    (A : Option Addr) (n c : Nat) (xs : List Value) (hs : a.eval s = .slice A n c) (hown : Fresh w base e A n c xs)
    (A2 : Option Addr) (m c2 : Nat) (news : List Value) (hx : a.eval x = .slice A2 m c2) (hl : news.length = m) (hr : ReadsAs w A2 news) (hnil : A2 = none → m = 0 ∧ c2 = 0) (h1 : ∀ u ∈ news, u.oneCell' = true)
    (h63 : n + m ≤ 1000000) (hbytes : (n + m) * bytes ≤ 140737488355328) (hbase : base ≤ w.heap.size)
    (h : ∀ A' c' w', Fresh w' base e A' (n + m) c' (xs ++ news) → Keep (fun k => ∃ o, A = some ⟨k, o, none⟩) w w' → K (a.put o.dst (.slice A' (n + m) c')) w') :
    if Region.wanted o (yielded ops a.tmps) = true then Oper.wp P o a w K Q else E := by
  have hw : Region.wanted o (yielded ops a.tmps) = true := by simp [Region.wanted, hgd]
  rw [if_pos hw]
  exact wp_append_onto w s x t ho base e i z bytes ht hi hz hsize hby hzs A n c xs hs hown A2 m c2 news hx hl hr hnil h1 h63 hbytes hbase h
end

theorem Fresh.made (w : World) (e : TypeId) {base : Nat} (hb : base ≤ w.heap.size) : Fresh (w.alloc (.cells #[] e)) base e (some ⟨w.heap.size, 0, none⟩) 0 0 [] :=
  World.ownsRow_made w #[] 0 hb (by unfold maxLen; omega) (by simp)
theorem Fresh.alloc {w : World} {base : Nat} {e : TypeId} {A : Option Addr} {n c : Nat} {xs : List Value} (h : Fresh w base e A n c xs) (o : Obj) : Fresh (w.alloc o) base e A n c xs := World.ownsRow.alloc h o
theorem Fresh.drew {w : World} {base : Nat} {e : TypeId} {A : Option Addr} {n c : Nat} {xs : List Value} (h : Fresh w base e A n c xs) : Fresh w.drew base e A n c xs := h
theorem Fresh.keep {w w' : World} {base : Nat} {e : TypeId} {A : Option Addr} {n c : Nat} {xs : List Value} {S : Nat → Prop} (h : Fresh w base e A n c xs) (hk : Keep S w w') (hs : ∀ b o, A = some ⟨b, o, none⟩ → ¬ S b) : Fresh w' base e A n c xs := by
  obtain ⟨h1, h2⟩ := h
  refine ⟨h1, ?_⟩
  rcases h2 with h2 | ⟨g, cap, cur, hv, hg, hh, hr⟩
  · exact .inl h2
  · injection hv with hv1 hv2 hv3
    subst hv1
    exact .inr ⟨g, cap, cur, by rw [hv3], hg, Blk.keep hh hk (hs g 0 rfl), hr⟩
end Go.Proofs.Ytbaggkokoablbaa
