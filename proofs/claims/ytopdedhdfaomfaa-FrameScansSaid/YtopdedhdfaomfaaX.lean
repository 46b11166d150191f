/- Words for what is handed on: bytes that lie somewhere; regions that make memory. -/
import Derived.Test.YtopdedhdfaomfaaW
import Derived.Lib.SlBytesConst
import Derived.Lib.SmallJoins
import Derived.DeepKeys
namespace Go.Proofs.Ytopdedhdfaomfaa
open Go.RowKit Go.BigFrame
def Onto (w0 w : World) : Prop := Keep (fun _ => False) w0 w
theorem bytes_list (w : World) (g o : Nat) (b : List Nat) (h : ∀ i, i < b.length → w.cell? ⟨g, o + i, none⟩ = some (bv (b.getD i 0))) (h2 : ∀ x ∈ b, x < 256) : BytesAt w (some ⟨g, o, none⟩) b := by
  refine ⟨?_, h2⟩
  intro i u hu
  rw [List.getElem?_map] at hu
  cases hx : b[i]? with
  | none => rw [hx] at hu; cases hu
  | some x =>
    rw [hx] at hu
    injection hu with hu
    subst hu
    have hi : i < b.length := (List.getElem?_eq_some_iff.1 hx).1
    refine ⟨g, o, rfl, ?_⟩
    rw [h i hi, List.getD_eq_getElem?_getD, hx]
    rfl
theorem bytes_nil (w : World) : BytesAt w none [] := ⟨fun i u h => by simp at h, fun x h => by simp at h⟩
theorem info_byte : (Try.prog.info? 5).map (fun i => (i.zero, i.size, i.bytes)) = some (some (.int .u8 0), 1, 1) := by kernel_rfl
theorem info_bool : (Try.prog.info? 4).map (fun i => (i.zero, i.size, i.bytes)) = some (some (.bool false), 1, 1) := by kernel_rfl
theorem info_parts {t : TypeId} {z : Value} {s n : Nat} (h : (Try.prog.info? t).map (fun i => (i.zero, i.size, i.bytes)) = some (some z, s, n)) : ∃ i, Try.prog.info? t = some i ∧ i.zero = some z ∧ i.size = s ∧ i.bytes = n := by
  cases hi : Try.prog.info? t with
  | none => simp [hi] at h
  | some i =>
    simp [hi] at h
    exact ⟨i, rfl, h.1, h.2.1, h.2.2⟩
theorem bytes_oneCell (b : List Nat) : ∀ u ∈ b.map bv, u.oneCell' = true := by
  intro u hu
  obtain ⟨x, _, rfl⟩ := List.mem_map.1 hu
  rfl
theorem wpList_append_want {P : Program} (w : World) {ops : Array Oper} {rest : List Oper} {o : Oper} {a : Act} {Q : Exit → Act → World → Prop} (hgd : Region.wanted o (yielded ops a.tmps) = true) (s x : Operand) (t : TypeId)
    (ho : o.op = .call { callee := .builtin .append, args := #[s, x], argTypes := #[t, t] })
    (base : Nat) (e : TypeId) (i : TypeInfo) (z : Value) (bytes : Nat) (ht : P.underlying t = some (.slice e)) (hi : P.info? e = some i) (hz : i.zero = some z)
    (hsize : i.size = 1) (hby : i.bytes = bytes) (hzs : z.cells.size = 1)
    (A : Option Addr) (n c : Nat) (xs : List Value) (hs : a.eval s = .slice A n c) (hown : Fresh w base e A n c xs)
    (A2 : Option Addr) (m c2 : Nat) (news : List Value) (hx : a.eval x = .slice A2 m c2) (hl : news.length = m) (hr : ReadsAs w A2 news) (hnil : A2 = none → m = 0 ∧ c2 = 0) (h1 : ∀ u ∈ news, u.oneCell' = true)
    (h63 : n + m ≤ 1000000) (hbytes : (n + m) * bytes ≤ 140737488355328) (hbase : base ≤ w.heap.size)
    (h : ∀ A' c' w', Fresh w' base e A' (n + m) c' (xs ++ news) → Keep (fun k => ∃ o, A = some ⟨k, o, none⟩) w w' → wpList P ops Q rest (a.put o.dst (.slice A' (n + m) c')) w') : wpList P ops Q (o :: rest) a w :=
  wpList_want hgd fun _ hK => wp_append_onto w s x t ho base e i z bytes ht hi hz hsize hby hzs A n c xs hs hown A2 m c2 news hx hl hr hnil h1 h63 hbytes hbase fun A' c' w' h2 h3 => hK _ _ (h A' c' w' h2 h3)
/-- A world behind W: what a region of calls that make memory may leave. -/
structure Later (W : World) where
  w : World
  on : Onto W w
instance (W : World) : Nonempty (Later W) := ⟨⟨W, Keep.refl _ W⟩⟩
theorem Calls.later {P : Program} {f : FuncId} {args : Array Value} {W w : World} {v : Value} (h : Calls P f args w fun e w' => e = .returned v ∧ Onto W w') :
    Calls P f args w fun e w' => e = .returned v ∧ ∃ d : Later W, w' = d.w :=
  h.mono fun _ _ ⟨he, hk⟩ => ⟨he, ⟨_, hk⟩, rfl⟩
theorem wp_region_later {P : Program} {id : Nat} {Q : Exit → Act → World → Prop} {a : Act} {w : World} {l : List Oper} (hm : P.follows .mixedOrders = true) (hB : Region.lexB .any l.toArray = true)
    (h : wpQuiet P l.toArray (fun w' => ∃ d : Later w, w' = d.w) (fun a' => ∀ w', Onto w w' → Q .normal a' w') l a) : (Code.region id l.toArray true).wp P Q a w := by
  refine wp_region_quiet (C := fun w' => ∃ d : Later w, w' = d.w) hm hB ⟨⟨w.drew, Keep.drew (Keep.refl _ w)⟩, rfl⟩ ?_
  have e : (fun a' => ∀ w', Onto w w' → Q .normal a' w') = (fun a' => ∀ w', (∃ d : Later w, w' = d.w) → Q .normal a' w') := by
    funext a'
    exact propext ⟨fun H w' ⟨d, hd⟩ => by subst hd; exact H _ d.on, fun H w' hk => H w' ⟨⟨w', hk⟩, rfl⟩⟩
  rw [e] at h
  simpa using h
theorem Onto.drew {w0 w : World} (h : Onto w0 w) : Onto w0 w.drew := Keep.drew h
end Go.Proofs.Ytopdedhdfaomfaa
