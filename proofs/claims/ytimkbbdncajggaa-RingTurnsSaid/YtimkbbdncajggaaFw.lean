/- few, and a script as it comes in. -/
import Derived.Test.YtimkbbdncajggaaDo
import Derived.WalkKit
import Derived.WalkSpells
import Derived.WalkLawsBesides
import Derived.ProofKit
import Derived.Deep.Slices
import Derived.Deep.Fields
namespace Go.Proofs.Ytimkbbdncajggaa
open Go.ChangeShapes Go.WideShapes Go.ChangeAt Go.RowKit Go.BigFrame
/-- A slice of calls, nil let in. -/
def OpsAt (w : World) (A : Option Addr) (l : List Op) : Prop :=
  ∀ (i : Nat) (x : Op), l[i]? = some x → ∃ b o, A = some ⟨b, o, none⟩ ∧ b < w.heap.size ∧ w.cell? ⟨b, o + i * 2, none⟩ = some (.int .i64 x.kind) ∧ w.cell? ⟨b, o + i * 2 + 1, none⟩ = some (.string x.s) ∧ x.s.size ≤ maxLen
theorem OpsAt.keep {w w' : World} {A : Option Addr} {l : List Op} (h : OpsAt w A l) (hk : Keep (fun _ => False) w w') : OpsAt w' A l := by
  intro i x hx
  obtain ⟨b, o, hA, hb, h1, h2, h4⟩ := h i x hx
  exact ⟨b, o, hA, Nat.lt_of_lt_of_le hb hk.size, (hk.cell (p := ⟨b, _, none⟩) hb (fun h => h)).trans h1, (hk.cell (p := ⟨b, _, none⟩) hb (fun h => h)).trans h2, h4⟩
def FewPost (w : World) (l : List Op) (e : Ending) (w' : World) : Prop := ∃ fb, e = .returned (.bool fb) ∧ (fb = true → l.length ≤ 200) ∧ Keep (fun _ => False) w w'
set_option maxHeartbeats 400000 in
theorem few_any (A : Option Addr) (c : Nat) (l : List Op) (w : World) (h : OpsAt w A l) (hn : l.length * 24 ≤ 140737488351232) :
    Calls Try.prog 20 #[.slice A l.length c] w (FewPost w l) := by
  have H := Lib.hid h
  clear h
  go_enter Try.func20, Try.ntmps20
  go_wp2_with fail
  go_loopw [3, 8] (fun n i wr => ∃ (k : Nat) (v : Int), k ≤ l.length ∧ i = .int .i64 k ∧ n = .int .i64 v ∧ Keep (fun _ => False) w wr) (fun _ i _ => l.length - (intOf i).toNat)
  case atStart => exact ⟨0, 0, Nat.zero_le _, rfl, rfl, Keep.refl _ _⟩
  case round =>
    obtain ⟨k, v, hk, rfl, rfl, hK⟩ := hrel
    have HK := Lib.hid hK
    clear hK
    by_cases hlt : k < l.length
    · obtain ⟨x, hx⟩ : ∃ x, l[k]? = some x := ⟨_, List.getElem?_eq_getElem hlt⟩
      obtain ⟨b, o, rfl, hb, h0, h1, hsz⟩ := (H.out.keep HK.out) k x hx
      clear hx
      unfold maxLen at hsz
      go_wp2
      go_roundw
      case rel => exact ⟨k + 1, _, by omega, by go_num, rfl, HK.out.alloc _⟩
      case measure => simp [intOf]; omega
    · by_cases hl : l.length ≤ 200
      · go_wp2
        go_ret
        exact ⟨_, rfl, fun _ => hl, HK.out⟩
      · have hd : decide ((l.length : Int) ≤ 200) = false := by simp; omega
        go_wp2
        go_ret
        exact ⟨_, rfl, (fun h => by cases h), HK.out⟩
theorem list_of_each {α : Type} {P : Nat → α → Prop} : ∀ n : Nat, (∀ i, i < n → ∃ x, P i x) → ∃ l : List α, l.length = n ∧ ∀ (i : Nat) (x : α), l[i]? = some x → P i x
  | 0, _ => ⟨[], rfl, fun i x h => by simp at h⟩
  | n + 1, h => by
    obtain ⟨l, hl, hp⟩ := list_of_each n (fun i hi => h i (by omega))
    obtain ⟨x, hx⟩ := h n (by omega)
    refine ⟨l ++ [x], by simp [hl], fun i y hy => ?_⟩
    by_cases hi : i < n
    · rw [List.getElem?_append_left (by omega)] at hy
      exact hp i y hy
    · rw [List.getElem?_append_right (by omega)] at hy
      have e : i = n := by
        have := (List.getElem?_eq_some_iff.1 hy).1
        simp at this
        omega
      subst e
      rw [hl, Nat.sub_self] at hy
      simp at hy
      subst hy
      exact hx
theorem Try.bytes46 : Try.prog.bytesOf 46 = 24 := by kernel_rfl
theorem Try.cells46 : Try.prog.cellsOf 46 = 2 := by kernel_rfl
def Fields46 : Prop := ∃ (f0 f1 : Field), Try.prog.underlying 46 = some (.struct #[f0, f1]) ∧ f0.type = 3 ∧ f1.type = 9 ∧ f0.offset = 0 ∧ f1.offset = 1
theorem fields46 : Fields46 := ⟨_, _, Try.underlying46, rfl, rfl, rfl, rfl⟩
theorem Try.cells3 : Try.prog.cellsOf 3 = 1 := by kernel_rfl
theorem Try.cells9 : Try.prog.cellsOf 9 = 1 := by kernel_rfl
theorem take_drop1 {l : List Value} {j : Nat} {v : Value} (h : (l.drop j).take 1 = [v]) : l[j]? = some v := by
  have := congrArg (·[0]?) h
  simpa [List.getElem?_take, List.getElem?_drop] using this
/-- What the reading of a script gives. -/
theorem open_ops {H : Type} {enc : TypeId × Value → H} {W : World} {fuel : Nat} {a1 : Option Addr} {len cap : Nat} {x : DataW H × List MemPlace}
    (h : DataW.trod enc Try.prog W 0 (fun _ => true) true fuel 40 [.slice a1 len cap] = some x) :
    ∃ l : List Op, l.length = len ∧ OpsAt W a1 l ∧ (len = 0 ∨ ∃ el sp, x.1 = .slice el sp ∧ el.length = len) := by
  rcases Deep.open_slice Try.underlying40 h with ⟨hcs, hx⟩ | ⟨a, len', cap', m, n, D, Pl, hcs, _, hl, hm, hmm, hx, hi⟩
  · simp at hcs
    obtain ⟨rfl, rfl, rfl⟩ := hcs
    exact ⟨[], rfl, fun i y hy => by simp at hy, .inl rfl⟩
  · simp at hcs
    obtain ⟨rfl, rfl, rfl⟩ := hcs
    simp only [if_true] at hmm
    subst hmm
    rw [Try.cells46] at hi
    obtain ⟨f0, f1, hu, t0, t1, o0, o1⟩ := fields46
    have hspot : 0 < len → a.spot = none := by
      intro hp
      obtain ⟨cs', hc, _⟩ := hi 0 (by omega)
      obtain ⟨_, hcl, hat⟩ := World.cells?_some hc
      have h0 := hat 0 (by omega)
      rw [Nat.zero_mul] at h0
      have e : (a.add 0).add 0 = a := by simp [Addr.add]
      rw [e, List.getElem?_eq_getElem (by omega)] at h0
      exact World.cell?_spot h0
    obtain ⟨l, hll, hP⟩ := list_of_each (P := fun i (x : Op) => a.block < W.heap.size ∧ W.cell? (a.add (i * 2)) = some (.int .i64 x.kind) ∧ W.cell? (a.add (i * 2 + 1)) = some (.string x.s) ∧ x.s.size ≤ maxLen) len (by
      intro i hil
      obtain ⟨cs', hc, ht⟩ := hi i (by omega)
      obtain ⟨_, hcl, hat⟩ := World.cells?_some hc
      obtain ⟨ys, n', _, _, hlen, hyl, hf⟩ := DataW.trod_struct hu ht
      have g0 := hf 0 f0 rfl
      have g1 := hf 1 f1 rfl
      rw [t0, o0, Try.cells3] at g0
      rw [t1, o1, Try.cells9] at g1
      obtain ⟨q0, e0, _, _⟩ := DataW.trod_int Try.underlying3 (g0.trans (List.getElem?_eq_getElem (by rw [hyl]; simp)))
      obtain ⟨q1, e1, _, hs1⟩ := DataW.trod_string Try.underlying9 (g1.trans (List.getElem?_eq_getElem (by rw [hyl]; simp)))
      have c0 := (hat 0 (by omega)).trans (take_drop1 e0)
      have c1 := (hat 1 (by omega)).trans (take_drop1 e1)
      rw [Deep.add_add] at c0 c1
      refine ⟨⟨q0, q1⟩, ?_, c0, c1, hs1⟩
      have hb := World.block_lt_of_cell? W _ c0
      have eb : (a.add (i * 2 + 0)).block = a.block := by unfold Addr.add; split <;> rfl
      rw [eb] at hb
      exact hb)
    refine ⟨l, hll, ?_, .inr ⟨_, _, by rw [hx], by simp⟩⟩
    intro i y hy
    obtain ⟨hb, c0, c1, hs⟩ := hP i y hy
    have hil : i < len := by rw [← hll]; exact (List.getElem?_eq_some_iff.1 hy).1
    obtain ⟨b, o, spot⟩ := a
    have hs0 := hspot (by omega)
    dsimp only at hs0
    subst hs0
    rw [add_off] at c0 c1
    exact ⟨b, o, rfl, hb, c0, by rw [Nat.add_assoc]; exact c1, hs⟩
end Go.Proofs.Ytimkbbdncajggaa
