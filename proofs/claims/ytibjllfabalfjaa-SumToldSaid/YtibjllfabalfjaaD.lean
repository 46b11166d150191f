/- SumBytes walked. -/
import Derived.Test.YtibjllfabalfjaaY
import Derived.Sort.AtCall
namespace Go.Proofs.Ytibjllfabalfjaa
open Go.RowKit Go.BigFrame
theorem run_append_empty {P : Program} (w : World) {t ty e : TypeId} {i : TypeInfo} (ht : P.underlying t = some (.slice e)) (hi : P.info? e = some i) (A : Option Addr) (n c : Nat) (hle : n ≤ c) (A2 : Option Addr) (c2 : Nat) :
    (Builtin.append_ #[t, t] ty #[.slice A n c, .slice A2 0 c2]).run P w = .ok (.slice A n c) w := by
  cases A <;> cases A2 <;> simp [Builtin.append_, run_underlying ht, sizeOf, typeInfo, hi, hle, storeCells, Builtin.lenOf, Builtin.firstCells, loadCells, loadCellsFrom]
theorem wpList_append_empty {P : Program} (w : World) {ops : Array Oper} {rest : List Oper} {o : Oper} {a : Act} {Q : Exit → Act → World → Prop} (hgd : Region.wanted o (yielded ops a.tmps) = true) (s x : Operand) (t : TypeId)
    (ho : o.op = .call { callee := .builtin .append, args := #[s, x], argTypes := #[t, t] })
    (e : TypeId) (i : TypeInfo) (ht : P.underlying t = some (.slice e)) (hi : P.info? e = some i) (A : Option Addr) (n c : Nat) (hs : a.eval s = .slice A n c) (hle : n ≤ c) (A2 : Option Addr) (c2 : Nat) (hx : a.eval x = .slice A2 0 c2)
    (h : wpList P ops Q rest (a.put o.dst (.slice A n c)) w) : wpList P ops Q (o :: rest) a w := by
  refine wpList_want hgd fun K hK => ?_
  have hrun := run_append_empty (P := P) w (ty := o.type) ht hi A n c hle A2 c2
  unfold Oper.wp
  simp [execOp, ho, resolve, invoke, builtin, hs, hx, hrun, Result.andThen]
  exact hK _ _ h
/-- 'append(s, x...)' onto a slice that has no spare room, whatever the source is. -/
theorem wpList_append_full {P : Program} (w : World) {ops : Array Oper} {rest : List Oper} {o : Oper} {a : Act} {Q : Exit → Act → World → Prop} (hgd : Region.wanted o (yielded ops a.tmps) = true) (s x : Operand) (t : TypeId)
    (ho : o.op = .call { callee := .builtin .append, args := #[s, x], argTypes := #[t, t] })
    (e : TypeId) (i : TypeInfo) (z : Value) (bytes : Nat) (ht : P.underlying t = some (.slice e)) (hi : P.info? e = some i) (hz : i.zero = some z)
    (hsize : i.size = 1) (hby : i.bytes = bytes) (hzs : z.cells.size = 1)
    (g off n : Nat) (olds : List Value) (hs : a.eval s = .slice (some ⟨g, off, none⟩) n n) (hlo : olds.length = n) (hold : ReadsAs w (some ⟨g, off, none⟩) olds)
    (A2 : Option Addr) (m c2 : Nat) (news : List Value) (hx : a.eval x = .slice A2 m c2) (hl : news.length = m) (hr : ReadsAs w A2 news) (hnil : A2 = none → m = 0 ∧ c2 = 0) (h1 : ∀ u ∈ news, u.oneCell' = true)
    (h63 : n + m ≤ 1000000) (hbytes : (n + m) * bytes ≤ 140737488355328)
    (h : ∀ A' c' w', A' ≠ none → ReadsAs w' A' (olds ++ news) → Keep (fun _ => False) w w' → wpList P ops Q rest (a.put o.dst (.slice A' (n + m) c')) w') : wpList P ops Q (o :: rest) a w := by
  refine wpList_want hgd fun K hK => ?_
  by_cases hm : m = 0
  · subst hm
    have hn : news = [] := List.eq_nil_of_length_eq_zero hl
    subst hn
    have hrun := run_append_empty (P := P) w (ty := o.type) ht hi (some ⟨g, off, none⟩) n n (Nat.le_refl n) A2 c2
    unfold Oper.wp
    simp [execOp, ho, resolve, invoke, builtin, hs, hx, hrun, Result.andThen]
    exact hK _ _ (h (some ⟨g, off, none⟩) n w (by simp) (by simpa using hold) (Keep.refl _ w))
  · cases hA2 : A2 with
    | none => exact absurd (hnil hA2).1 hm
    | some ad =>
      subst hA2
      have hc : ∀ j u, news[j]? = some u → w.cell? (ad.add j) = some u := by
        intro j u hu
        obtain ⟨b, o', hA, hc⟩ := hr j u hu
        injection hA with hA
        subst hA
        rw [add_off]
        exact hc
      have hc0 : ∀ j u, olds[j]? = some u → w.cell? ((⟨g, off, none⟩ : Addr).add j) = some u := by
        intro j u hu
        obtain ⟨b, o', hA, hc⟩ := hold j u hu
        injection hA with hA
        injection hA with hA1 hA2
        subst hA1 hA2
        rw [add_off]
        exact hc
      obtain ⟨v', w', hrun, hown, hgr⟩ := run_append_arg_grows (P := P) w t o.type e i z 1 bytes ht hi hz hsize hby hzs (by omega) ⟨g, off, none⟩ n n olds (by omega) hc0 ad m c2 news (by omega) hc (by omega) (by unfold maxLen; omega) hbytes
      have hform : ∃ A' c', v' = .slice A' (n + m) c' ∧ A' ≠ none := by
        rcases hown.2 with ⟨hv, h0⟩ | ⟨g, cap, cur, hv, _⟩
        · omega
        · exact ⟨_, _, hv, by simp⟩
      obtain ⟨A', c', rfl, hne⟩ := hform
      unfold Oper.wp
      simp [execOp, ho, resolve, invoke, builtin, hs, hx, hrun, Result.andThen]
      exact hK _ _ (h A' c' w' hne (Fresh.reads hown) ((Keep.refl _ w).grown hgr (fun k h => by cases h)))
def bytes4 (s : BitVec 32) : List Nat := [byteOf s 0, byteOf s 1, byteOf s 2, byteOf s 3]
theorem le_bytes4 (s : BitVec 32) (more : List Nat) : BitVec.ofNat 32 (le ((bytes4 s ++ more).take 4)) = s := by
  have : (bytes4 s ++ more).take 4 = bytes4 s := by simp [bytes4]
  rw [this]
  apply BitVec.eq_of_toNat_eq
  have hs := s.isLt
  rw [BitVec.toNat_ofNat]
  simp only [bytes4, le, byteOf]
  simp
  omega
theorem bytes4_lt (s : BitVec 32) : ∀ x ∈ bytes4 s, x < 256 := by
  intro x hx
  simp [bytes4, byteOf] at hx
  omega
theorem fourA_le (a b c d : Nat) (r : List Nat) (ha : a < 256) (hb : b < 256) (hc : c < 256) (hd : d < 256) : fourA (BitVec.ofNat 32 (le ((a :: b :: c :: d :: r).take 4))) = #[bv a, bv b, bv c, bv d] := by
  have h : (BitVec.ofNat 32 (le ((a :: b :: c :: d :: r).take 4))).toNat = a + 256 * (b + 256 * (c + 256 * d)) := by
    rw [BitVec.toNat_ofNat]
    simp [le]
    omega
  have h0 : byteOf (BitVec.ofNat 32 (le ((a :: b :: c :: d :: r).take 4))) 0 = a := by unfold byteOf; rw [h]; simp; omega
  have h1 : byteOf (BitVec.ofNat 32 (le ((a :: b :: c :: d :: r).take 4))) 1 = b := by unfold byteOf; rw [h]; simp; omega
  have h2 : byteOf (BitVec.ofNat 32 (le ((a :: b :: c :: d :: r).take 4))) 2 = c := by unfold byteOf; rw [h]; simp; omega
  have h3 : byteOf (BitVec.ofNat 32 (le ((a :: b :: c :: d :: r).take 4))) 3 = d := by unfold byteOf; rw [h]; simp; omega
  unfold fourA
  rw [h0, h1, h2, h3]
end Go.Proofs.Ytibjllfabalfjaa
