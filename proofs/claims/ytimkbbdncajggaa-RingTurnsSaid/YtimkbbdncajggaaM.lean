/- A row that a ring owns: it may begin in the middle of its block; one more behind it. -/
import Derived.Test.YtimkbbdncajggaaR
import Derived.Test.YtimkbbdncajggaaRows
import Derived.WalkSpells
import Derived.WalkLawsBesides
import Derived.Laws.IdiomCopy
import Derived.Outline
namespace Go.Proofs.Ytimkbbdncajggaa
open Go.RowKit Go.BigFrame
def Tail (w : World) (e : TypeId) (A : Option Addr) (n c : Nat) (xs : List Value) : Prop :=
  xs.length = n ∧ ((A = none ∧ n = 0 ∧ c = 0) ∨ ∃ g o cur, A = some ⟨g, o, none⟩ ∧ Blk w g e cur ∧ n ≤ c ∧ o + c ≤ cur.size ∧ c ≤ 9223372036854775807 ∧ ∀ (i : Nat) (u : Value), xs[i]? = some u → cur[o + i]? = some u)
section
variable {w w' : World} {e : TypeId} {A : Option Addr} {n c : Nat} {xs : List Value}
theorem Tail.nil (w : World) (e : TypeId) : Tail w e none 0 0 [] := ⟨rfl, .inl ⟨rfl, rfl, rfl⟩⟩
theorem Tail.keep {S : Nat → Prop} (h : Tail w e A n c xs) (hk : Keep S w w') (hs : ∀ k o, A = some ⟨k, o, none⟩ → ¬ S k) : Tail w' e A n c xs := by
  refine ⟨h.1, ?_⟩
  rcases h.2 with h0 | ⟨g, o, cur, rfl, hb, hr⟩
  · exact .inl h0
  · exact .inr ⟨g, o, cur, rfl, hb.keep hk (hs g o rfl), hr⟩
theorem Tail.turns {B : Nat} (h : Tail w e A n c xs) (ht : Turns B w w') : Tail w' e A n c xs := by
  refine ⟨h.1, ?_⟩
  rcases h.2 with h0 | ⟨g, o, cur, rfl, hb, hr⟩
  · exact .inl h0
  · exact .inr ⟨g, o, cur, rfl, Turns.blk ht hb, hr⟩
theorem Tail.cell (h : Tail w e A n c xs) {i : Nat} {u : Value} (hu : xs[i]? = some u) : ∃ g o, A = some ⟨g, o, none⟩ ∧ w.cell? ⟨g, o + i, none⟩ = some u ∧ w.frozen? ⟨g, o + i, none⟩ = false := by
  rcases h.2 with ⟨_, h0, _⟩ | ⟨g, o, cur, rfl, hb, _, _, _, hr⟩
  · have := (List.getElem?_eq_some_iff.1 hu).1
    have := h.1
    omega
  · exact ⟨g, o, rfl, (hb.cell _).trans (hr i u hu), hb.frozen _⟩
theorem Tail.reads (h : Tail w e A n c xs) : ReadsAs w A xs := by
  intro i u hu
  obtain ⟨g, o, hA, hc, _⟩ := h.cell hu
  exact ⟨g, o, hA, hc⟩
theorem Tail.le (h : Tail w e A n c xs) : n ≤ c ∧ c ≤ 9223372036854775807 := by
  rcases h.2 with ⟨_, h0, h1⟩ | ⟨g, o, cur, rfl, hb, h1, h2, h3, _⟩
  · omega
  · exact ⟨h1, h3⟩
theorem Tail.lt (h : Tail w e A n c xs) : ∀ k o, A = some ⟨k, o, none⟩ → k < w.heap.size := by
  rintro k o rfl
  rcases h.2 with ⟨h0, _⟩ | ⟨g, o, cur, h0, hb, _⟩
  · cases h0
  · cases h0
    exact hb.lt
theorem Tail.blk (h : Tail w e A n c xs) : ∀ k o, A = some ⟨k, o, none⟩ → ∃ cur, Blk w k e cur := by
  rintro k o rfl
  rcases h.2 with ⟨h0, _⟩ | ⟨g, o, cur, h0, hb, _⟩
  · cases h0
  · cases h0
    exact ⟨cur, hb⟩
theorem Tail.none_ (h : Tail w e A n c xs) (hA : A = none) : n = 0 ∧ c = 0 := by
  rcases h.2 with ⟨_, h0, h1⟩ | ⟨g, o, cur, h0, hb, _⟩
  · exact ⟨h0, h1⟩
  · rw [hA] at h0; cases h0
theorem Tail.some_ (h : Tail w e A n c xs) (hn : n ≠ 0) : ∃ g o, A = some ⟨g, o, none⟩ := by
  rcases h.2 with ⟨_, h0, _⟩ | ⟨g, o, cur, h0, hb, _⟩
  · omega
  · exact ⟨g, o, h0⟩
theorem Tail.drop {g o : Nat} (h : Tail w e (some ⟨g, o, none⟩) n c xs) (k : Nat) (hk : k ≤ n) : Tail w e (some ⟨g, o + k, none⟩) (n - k) (c - k) (xs.drop k) := by
  rcases h.2 with ⟨h0, _⟩ | ⟨g', o', cur, h0, hb, h1, h2, h3, hr⟩
  · cases h0
  · cases h0
    refine ⟨by rw [List.length_drop, h.1], .inr ⟨g, o + k, cur, rfl, hb, by omega, by omega, by omega, fun i u hu => ?_⟩⟩
    rw [List.getElem?_drop] at hu
    rw [Nat.add_assoc]
    exact hr _ _ hu
theorem Tail.of_fresh {base : Nat} (h : Fresh w base e A n c xs) : Tail w e A n c xs := by
  refine ⟨by have := h.1; omega, ?_⟩
  rcases h.2 with ⟨hv, h0⟩ | ⟨g, cap, cur, hv, hg, hh, hnc, hcm, hsz, htk⟩
  · injection hv with h1 h2 h3
    exact .inl ⟨h1, h0, h3⟩
  · injection hv with h1 h2 h3
    subst h3
    unfold maxLen at hcm
    refine .inr ⟨g, 0, cur, h1, hh, hnc, by omega, by omega, fun i u hu => ?_⟩
    rw [← htk, List.getElem?_take] at hu
    rw [Nat.zero_add]
    split at hu
    · simpa using hu
    · cases hu
end
theorem run_append_tail {P : Program} (w : World) (t ty e : TypeId) (i : TypeInfo) (z : Value) (bytes : Nat) (ht : P.underlying t = some (.slice e)) (hi : P.info? e = some i) (hz : i.zero = some z)
    (hsize : i.size = 1) (hby : i.bytes = bytes) (hzs : z.cells.size = 1) (hb16 : bytes ≤ 100)
    (A : Option Addr) (n c : Nat) (xs : List Value) (hown : Tail w e A n c xs) (hn : n ≤ 100000) (k c2 : Nat) (v : Value) (hk : w.cell? ⟨k, 0, none⟩ = some v) (h1 : v.oneCell' = true) (hkA : ∀ o, A ≠ some ⟨k, o, none⟩) :
    ∃ A' c' w', (Builtin.append_ #[t, t] ty #[.slice A n c, .slice (some ⟨k, 0, none⟩) 1 c2]).run P w = .ok (.slice A' (n + 1) c') w' ∧ Tail w' e A' (n + 1) c' (xs ++ [v]) ∧ Keep (fun k => ∃ o, A = some ⟨k, o, none⟩) w w' ∧ A' ≠ none ∧
      (∀ k o, A' = some ⟨k, o, none⟩ → (∃ o', A = some ⟨k, o', none⟩) ∨ w.heap.size ≤ k) := by
  have hnews : ∀ j u, [v][j]? = some u → w.cell? ((⟨k, 0, none⟩ : Addr).add j) = some u := by
    intro j u hu
    match j, hu with
    | 0, hu => simp at hu; subst hu; rw [add_off]; exact hk
  have hone : ∀ u ∈ [v], u.oneCell' = true := fun u hu => by simp at hu; subst hu; exact h1
  have hb1 : (n + 1) * bytes ≤ 140737488355328 := by
    have : (n + 1) * bytes ≤ 100001 * 100 := Nat.mul_le_mul (by omega) hb16
    omega
  have grown : ∀ v' w', w'.ownsRow w.heap.size e 1 v' (n + 1) (xs ++ [v]) → w.grownBy w' none → ∃ A' c', v' = .slice A' (n + 1) c' ∧ Tail w' e A' (n + 1) c' (xs ++ [v]) ∧ Keep (fun k => ∃ o, A = some ⟨k, o, none⟩) w w' ∧ A' ≠ none ∧ (∀ k o, A' = some ⟨k, o, none⟩ → (∃ o', A = some ⟨k, o', none⟩) ∨ w.heap.size ≤ k) := by
    intro v' w' ho hg
    have ho' := ho
    rcases ho.2 with ⟨_, h0⟩ | ⟨g, cap, cur, rfl, hg', _⟩
    · omega
    · exact ⟨some ⟨g, 0, none⟩, cap, rfl, Tail.of_fresh ho', ((Keep.refl _ w).grown hg (fun k h => by cases h)), by simp, fun k o h => by cases h; exact .inr hg'⟩
  rcases hown.2 with ⟨rfl, rfl, rfl⟩ | ⟨g, o, cur, rfl, hb, hnc, hoc, hcm, hr⟩
  · have hx : xs = [] := List.eq_nil_of_length_eq_zero hown.1
    subst hx
    obtain ⟨v', w', hrun, r1, r2, r3⟩ := run_append_own (P := P) w w.heap.size t ty e i z 1 bytes ht hi hz hsize hby hzs (by omega) (.slice none 0 0) 0 [] (World.ownsRow_nil _ _ _ _) ⟨k, 0, none⟩ 1 c2 [v] rfl hnews hone (by unfold maxLen; omega) (by omega) (Nat.le_refl _)
    have r2' : w.grownBy w' none := r2
    rw [Nat.zero_add] at r1
    obtain ⟨A', c', rfl, q1, q2, q3, q4⟩ := grown v' w' r1 r2'
    exact ⟨A', c', w', hrun, q1, q2, q3, q4⟩
  · by_cases hroom : n + 1 ≤ c
    · have hcell : ∀ j, j < [v].length → (w.cell? ⟨g, o + n * i.size + j, none⟩).isSome = true := by
        intro j hj
        simp at hj
        subst hj
        rw [hsize, hb.cell, Array.getElem?_eq_getElem (by omega)]
        rfl
      have hfz : ∀ j, j < [v].length → w.frozen? ⟨g, o + n * i.size + j, none⟩ = false := fun j _ => hb.frozen _
      have hrun := run_append_room_cells (P := P) w t ty e i ht hi g o n c ⟨k, 0, none⟩ 1 c2 [v] (by rw [hsize]; rfl) hnews hone hroom hcell hfz
      rw [hsize, Nat.mul_one] at hrun
      refine ⟨some ⟨g, o, none⟩, c, w.setCell ⟨g, o + n, none⟩ v, hrun, ⟨by rw [List.length_append, hown.1]; rfl, .inr ⟨g, o, _, rfl, hb.set_ (o + n) v, hroom, by rw [Array.size_setIfInBounds]; exact hoc, hcm, ?_⟩⟩, (Keep.refl _ w).setCell (fun _ => ⟨o, rfl⟩) v, by simp, fun k' o' h => by cases h; exact .inl ⟨_, rfl⟩⟩
      intro j u hu
      by_cases hj : j < n
      · rw [List.getElem?_append_left (by rw [hown.1]; exact hj)] at hu
        rw [Array.getElem?_setIfInBounds_ne (by omega)]
        exact hr j u hu
      · have hjn : j = n := by
          have := (List.getElem?_eq_some_iff.1 hu).1
          rw [List.length_append, hown.1] at this
          simp at this
          omega
        subst hjn
        rw [List.getElem?_append_right (by rw [hown.1]; exact Nat.le_refl _), hown.1, Nat.sub_self] at hu
        simp at hu
        subst hu
        rw [Array.getElem?_setIfInBounds_self_of_lt (by omega)]
    · have holds : ∀ j u, xs[j]? = some u → w.cell? ((⟨g, o, none⟩ : Addr).add j) = some u := fun j u hu => by
        rw [add_off, hb.cell]
        exact hr j u hu
      obtain ⟨v', w', hrun, r1, r2⟩ := run_append_arg_grows (P := P) w t ty e i z 1 bytes ht hi hz hsize hby hzs (by omega) ⟨g, o, none⟩ n c xs (by have := hown.1; omega) holds ⟨k, 0, none⟩ 1 c2 [v] rfl hnews (by omega) (by unfold maxLen; omega) hb1
      obtain ⟨A', c', rfl, q1, q2, q3, q4⟩ := grown v' w' r1 r2
      exact ⟨A', c', w', hrun, q1, q2, q3, q4⟩
theorem wpList_append_tail {P : Program} (w : World) {ops : Array Oper} {rest : List Oper} {o : Oper} {a : Act} {Q : Exit → Act → World → Prop} (hgd : Region.wanted o (yielded ops a.tmps) = true) (s x : Operand) (t : TypeId)
    (ho : o.op = .call { callee := .builtin .append, args := #[s, x], argTypes := #[t, t] })
    (e : TypeId) (i : TypeInfo) (z : Value) (bytes : Nat) (ht : P.underlying t = some (.slice e)) (hi : P.info? e = some i) (hz : i.zero = some z)
    (hsize : i.size = 1) (hby : i.bytes = bytes) (hzs : z.cells.size = 1) (hb16 : bytes ≤ 100)
    (A : Option Addr) (n c : Nat) (xs : List Value) (hs : a.eval s = .slice A n c) (hown : Tail w e A n c xs) (hn : n ≤ 100000) (k c2 : Nat) (v : Value) (hx : a.eval x = .slice (some ⟨k, 0, none⟩) 1 c2) (hk : w.cell? ⟨k, 0, none⟩ = some v) (h1 : v.oneCell' = true) (hkA : ∀ o, A ≠ some ⟨k, o, none⟩)
    (h : ∀ A' c' w', Tail w' e A' (n + 1) c' (xs ++ [v]) → Keep (fun k => ∃ o, A = some ⟨k, o, none⟩) w w' → A' ≠ none → (∀ k o, A' = some ⟨k, o, none⟩ → (∃ o', A = some ⟨k, o', none⟩) ∨ w.heap.size ≤ k) → wpList P ops Q rest (a.put o.dst (.slice A' (n + 1) c')) w') : wpList P ops Q (o :: rest) a w := by
  refine wpList_want hgd fun K hK => ?_
  obtain ⟨A', c', w', hrun, h2, h3, h4, h5⟩ := run_append_tail (P := P) w t o.type e i z bytes ht hi hz hsize hby hzs hb16 A n c xs hown hn k c2 v hk h1 hkA
  unfold Oper.wp execOp
  simp only [ho, resolve, invoke, builtin, Sem.run_bind, Sem.run_pure, Result.andThen_ok, List.map_toArray, List.map_cons, List.map_nil, hs, hx, hrun]
  exact hK _ _ (h A' c' w' h2 h3 h4 h5)
theorem Tail.set_ {w : World} {e : TypeId} {g o n c : Nat} {xs : List Value} (h : Tail w e (some ⟨g, o, none⟩) n c xs) {k : Nat} (hk : k < n) (v : Value) : Tail (w.setCell ⟨g, o + k, none⟩ v) e (some ⟨g, o, none⟩) n c (xs.set k v) := by
  refine ⟨by rw [List.length_set]; exact h.1, ?_⟩
  rcases h.2 with ⟨h0, _⟩ | ⟨g', o', cur, hA, hb, hnc, hoc, hcm, hr⟩
  · cases h0
  · cases hA
    refine .inr ⟨g, o, _, rfl, hb.set_ (o + k) v, hnc, by rw [Array.size_setIfInBounds]; exact hoc, hcm, ?_⟩
    intro j u hu
    by_cases hj : j = k
    · subst hj
      rw [List.getElem?_set_self (by rw [h.1]; exact hk)] at hu
      cases hu
      rw [Array.getElem?_setIfInBounds_self_of_lt (by omega)]
    · rw [List.getElem?_set_ne (by omega)] at hu
      rw [Array.getElem?_setIfInBounds_ne (by omega)]
      exact hr j u hu
/-- The blocks that a ring has. -/
def Foot (B : Nat) (A : Option Addr) (k : Nat) : Prop := k = B ∨ ∃ o, A = some ⟨k, o, none⟩
def clampN (limit : Int) : Nat := (min (max limit 1) 64).toNat
theorem clampN_bd (limit : Int) : 1 ≤ clampN limit ∧ clampN limit ≤ 64 ∧ (clampN limit : Int) = min (max limit 1) 64 := by unfold clampN; omega
end Go.Proofs.Ytimkbbdncajggaa
