/- A map of counts, and what a ring's turns come to: plain. -/
import Derived.Test.YtimkbbdncajggaaM
import Derived.Maps.OwnSet
import Derived.StringKeys
import Derived.Maps.OwnIn
import Derived.Maps.Views
import Derived.Maps.RangeWalk
import Derived.Sort.MapsRangeIn
namespace Go.Proofs.Ytimkbbdncajggaa
open Go.RowKit Go.BigFrame Go.Maps Go.WideMaps
theorem law9 : Keyed Try.prog 9 := string_keyed Try.underlying9
theorem zero3 (w : World) : (zeroValue 3).run Try.prog w = .ok (.int .i64 0) w := by kernel_rfl
def keyS (s : ByteArray) : Lit := .string s.data.toList
theorem keyS_inj {s t : ByteArray} (h : keyS s = keyS t) : s = t := by
  have h1 : s.data.toList = t.data.toList := by injection h
  have h2 : s.data = t.data := Array.toList_inj.1 h1
  cases s
  cases t
  cases h2
  rfl
/-- What the counts of a map are. -/
def Counts (D : DataW Unit) (f : ByteArray → Int) : Prop := ∀ s : ByteArray, s.size ≤ maxLen → D.atKey (keyS s) (.lit (.int .i64 0)) = .lit (.int .i64 (f s))
/-- Block b is a map of counts. -/
def CountAt (w : World) (b n : Nat) (f : ByteArray → Int) : Prop := ∃ D : DataW Unit, w.ownsMap Try.prog 9 (plainElem Try.prog 3) b n D ∧ Counts D f
theorem owns_block {w w' : World} {b n : Nat} {D : DataW Unit} (h : w.ownsMap Try.prog 9 (plainElem Try.prog 3) b n D) (he : w'.heap[b]? = w.heap[b]?) : w'.ownsMap Try.prog 9 (plainElem Try.prog 3) b n D := by
  obtain ⟨es, clock, hb, r⟩ := h
  exact ⟨es, clock, he.trans hb, r⟩
theorem owns_keep {S : Nat → Prop} {w w' : World} {b n : Nat} {D : DataW Unit} (h : w.ownsMap Try.prog 9 (plainElem Try.prog 3) b n D) (hk : Keep S w w') (hb : ¬ S b) : w'.ownsMap Try.prog 9 (plainElem Try.prog 3) b n D :=
  owns_block h (hk.block b h.lt hb)
theorem ranges_keep {S : Nat → Prop} {w w' : World} {b r n cnt : Nat} {D : DataW Unit} {left : Lit → Bool} (h : w.ranges Try.prog 9 (plainElem Try.prog 3) b r n D left cnt) (hk : Keep S w w') (hb : ¬ S b) (hr : ¬ S r) : w'.ranges Try.prog 9 (plainElem Try.prog 3) b r n D left cnt := by
  have h1 := h.lt
  have h2 := h.owns.lt
  obtain ⟨es, clock, since, seen, c0, e1, e2, e3, e4, e5, rest⟩ := h
  exact ⟨es, clock, since, seen, c0, (hk.block b h2 hb).trans e1, e2, e3, e4, (hk.block r h1 hr).trans e5, rest⟩
theorem keep_grown {w w' : World} {b : Nat} (h : w.grownBy w' (some b)) : Keep (fun k => k = b) w w' :=
  ⟨h.os, h.tape, h.output, h.size, fun k hk hn => h.block k hk (fun e => hn (by injection e))⟩
theorem keep_grown0 {w w' : World} (h : w.grownBy w' none) : Keep (fun _ => False) w w' :=
  ⟨h.os, h.tape, h.output, h.size, fun k hk _ => h.block k hk (by simp)⟩
theorem CountAt.keep {S : Nat → Prop} {w w' : World} {b n : Nat} {f : ByteArray → Int} (h : CountAt w b n f) (hk : Keep S w w') (hb : ¬ S b) : CountAt w' b n f := by
  obtain ⟨D, h1, h2⟩ := h
  exact ⟨D, owns_keep h1 hk hb, h2⟩
theorem CountAt.lt {w : World} {b n : Nat} {f : ByteArray → Int} (h : CountAt w b n f) : b < w.heap.size := by
  obtain ⟨D, h1, _⟩ := h
  exact h1.lt
theorem counts_empty : Counts (.map []) (fun _ => 0) := fun _ _ => atKey_of_not_has rfl _
theorem counts_put {D : DataW Unit} {f g : ByteArray → Int} {x : ByteArray} {v : Int} (h : Counts D f) (hm : IsMap D) (hv : v = g x) (hg : ∀ s, s ≠ x → g s = f s) : Counts (D.put (keyS x) (.lit (.int .i64 v))) g := by
  intro s hs
  by_cases hx : s = x
  · subst hx
    rw [atKey_put_same hm (by exact trivial), hv]
  · rw [atKey_put_other (fun e => hx (keyS_inj e)), h s hs, hg s hx]
theorem counts_at {D : DataW Unit} {f : ByteArray → Int} {x : ByteArray} {c : Int} (h : Counts D f) (hx : x.size ≤ maxLen) (hat : D.atKey (keyS x) (.lit (.int .i64 0)) = .lit (.int .i64 c)) : c = f x := by
  rw [h x hx] at hat
  injection hat with hat
  injection hat with _ hat
  exact hat.symm
noncomputable section
open Classical
/-- How often s stands in l. -/
def many (s : ByteArray) (l : List ByteArray) : Nat := (l.filter (fun x => decide (x = s))).length
theorem many_nil (s : ByteArray) : many s [] = 0 := rfl
theorem many_append (s : ByteArray) (l m : List ByteArray) : many s (l ++ m) = many s l + many s m := by unfold many; rw [List.filter_append, List.length_append]
theorem many_snoc (x : ByteArray) (l : List ByteArray) : many x (l ++ [x]) = many x l + 1 := by
  rw [many_append]
  congr 1
  unfold many
  simp
theorem many_other {s x : ByteArray} (h : s ≠ x) (l : List ByteArray) : many s (l ++ [x]) = many s l := by
  rw [many_append]
  have : many s [x] = 0 := by
    unfold many
    simp [Ne.symm h]
  omega
theorem many_le (s : ByteArray) (l : List ByteArray) : many s l ≤ l.length := List.length_filter_le ..
end
/-- The order in which the things of a ring are met. -/
def rot (L : List ByteArray) (a : Nat) : List ByteArray := L.drop (a + 1) ++ L.take (a + 1)
theorem rot_length {L : List ByteArray} {a : Nat} (h : a < L.length) : (rot L a).length = L.length := by
  unfold rot
  rw [List.length_append, List.length_drop, List.length_take]
  omega
theorem rot_get {L : List ByteArray} {a j : Nat} (h : a < L.length) (hj : j < L.length) : (rot L a)[j]? = L[(a + j + 1) % L.length]? := by
  unfold rot
  by_cases h1 : a + j + 1 < L.length
  · rw [Nat.mod_eq_of_lt h1, List.getElem?_append_left (by rw [List.length_drop]; omega), List.getElem?_drop]
    congr 1
    omega
  · have e : (a + j + 1) % L.length = a + j + 1 - L.length := by
      rw [Nat.mod_eq_sub_mod (by omega)]
      exact Nat.mod_eq_of_lt (by omega)
    rw [e, List.getElem?_append_right (by rw [List.length_drop]; omega), List.length_drop, List.getElem?_take_of_lt (by omega)]
    congr 1
    omega
theorem many_rot (s : ByteArray) (L : List ByteArray) (a : Nat) : many s (rot L a) = many s L := by
  unfold rot
  rw [many_append, Nat.add_comm, ← many_append, List.take_append_drop]
/-- The step of a range over the map, its keys strings, its elements numbers. -/
theorem wpList_next_si {w : World} {ops : Array Oper} {rest : List Oper} {o : Oper} {a : Act} {Q : Exit → Act → World → Prop} (hg : o.guard = none) (it : Operand) (hop : o.op = Op.next it false) (b r n : Nat) (D : DataW Unit) (left : Lit → Bool) (cnt : Nat)
    (hit : a.eval it = .pointer (some ⟨r, 0, none⟩)) (h : w.ranges Try.prog 9 (plainElem Try.prog 3) b r n D left cnt)
    (hDone : wpList Try.prog ops Q rest (a.put o.dst (.tuple #[.bool false])) w)
    (hMore : ∀ (x : ByteArray) (c : Int) (left' : Lit → Bool) (w' : World) (cnt' : Nat), x.size ≤ maxLen → D.atKey (keyS x) (.lit (.int .i64 0)) = .lit (.int .i64 c) → w'.ranges Try.prog 9 (plainElem Try.prog 3) b r n D left' cnt' → cnt' < cnt →
      Keep (fun k => k = r) w w' → (Instr.entry (.pointer (some ⟨r, 0, none⟩))).run Try.prog w' = .ok (.tuple #[.string x, .int .i64 c]) w' → wpList Try.prog ops Q rest (a.put o.dst (.tuple #[.bool true, .string x, .int .i64 c])) w') :
    wpList Try.prog ops Q (o :: rest) a w := by
  refine wpList_next_ranges w hg it hop 9 law9 (plainElem Try.prog 3) Value.string (Value.int .i64) (fun key kl hkey => Maps.keyOf_string_inv Try.underlying9 hkey) (fun v y hv => by obtain ⟨c, rfl, _⟩ := plainElem_int_inv Try.underlying3 hv; exact ⟨c, rfl⟩) b r n D left cnt hit h (fun _ _ => hDone) ?_
  intro x c kl y w' cnt' hkey _ hv hat hrg hlt hgr _ hen
  obtain ⟨c', ec, rfl, _⟩ := plainElem_int_inv Try.underlying3 hv
  cases ec
  have hx : x.size ≤ maxLen := by
    rw [keyOf_string Try.underlying9] at hkey
    simp [mapKey, Try.underlying9] at hkey
    exact hkey.1
  rw [keyOf_string_mk Try.underlying9 hx] at hkey
  cases hkey
  exact hMore x c _ w' cnt' hx (hat _) hrg hlt (keep_grown hgr) hen
end Go.Proofs.Ytimkbbdncajggaa
