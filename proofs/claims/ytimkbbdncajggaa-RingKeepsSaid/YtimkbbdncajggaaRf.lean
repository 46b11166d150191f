/- A region that draws its order, begins with one operation that must come first, then reads, and ends in the text's order. -/
import Derived.Test.YtimkbbdncajggaaB
import Derived.StillTailTactics
import Derived.RegionTactic
namespace Go.Proofs.Ytimkbbdncajggaa
open Go.RowKit
theorem region_first_tail {P : Program} {id : Nat} {Q : Exit → Act → World → Prop} {a : Act} {w : World} {o : Oper} {l : List Oper} (n : Nat) (hm : P.follows .mixedOrders = true) (hB : Region.lexTailB .any (o :: l).toArray (n + 1) = true)
    (h0 : Region.ready .any (o :: l).toArray (Array.replicate (l.length + 1) false) = [0]) (hw : Region.wanted o (yielded (o :: l).toArray a.tmps) = true)
    (h : ∀ K : Act → World → Prop, (∀ a1 w1, wpQuiet P (o :: l).toArray (fun w' => w' = w1) (fun a' => wpList P (o :: l).toArray Q (l.drop n) a' w1) (l.take n) a1 → K a1 w1) → o.wp P a w.drew K Q) : (Code.region id (o :: l).toArray true).wp P Q a w := by
  simp only [Region.lexTailB, Bool.and_eq_true, decide_eq_true_eq] at hB
  obtain ⟨⟨⟨⟨hsel, hn⟩, hs⟩, hc⟩, hlex⟩ := hB
  simp only [Region.lexHead, Bool.and_eq_true] at hlex
  have hn' : n < l.length := by simpa using hn
  have inv0 : HeadInv .any (o :: l).toArray (n + 1) (Array.replicate (o :: l).toArray.size false) :=
    ⟨by simp, fun j oj _ hl => (by rw [getD_replicate_false] at hl; cases hl), fun t _ ht => getD_in (by simpa using ht) (getD_replicate_false _ _)⟩
  have inv1 := inv0.set (i := 0) (by simpa using hlex.1.1) (by omega)
  have htl : (l.take n).length = n := by simp; omega
  have hdl : (l.drop n).length = (o :: l).toArray.size - (n + 1) := by simp
  refine wp_region_any hm ?_
  show wpAny P .any (o :: l).toArray Q (l.length + 1) (Array.replicate (l.length + 1) false) a w.drew
  refine wpAny_ready h0 (by simp) (AllReady.cons (o := o) rfl (fun K hK => ?_) AllReady.nil)
  rw [if_pos hw]
  refine h K (fun a1 w1 hq => hK _ _ ?_)
  have H := wpAnyL_lex (md := .any) (g := (o :: l).toArray.size - (n + 1)) hsel hs hc hn (l.take n) 1 _ a1 (fun j hj => by
    have hj' : j < n := by rw [htl] at hj; exact hj
    simp [hj', Nat.add_comm 1 j]) (by rw [htl]; omega) inv1 (by rw [htl]; exact hlex.2) (wpStill_of_quiet _ _ hq)
  have := wpAny_of_head (Q' := Q) (g := (o :: l).toArray.size - (n + 1)) (fun listed a' hL => by
    have := wpAny_of_seq (md := .any) (Q' := Q) (l.drop n) (n + 1) listed a' w1 (fun j => by rw [List.getElem?_drop, show n + 1 + j = n + j + 1 by omega]; simp) (by rw [hdl]; exact hL.1) hL.2
    rwa [hdl] at this) _ _ _ H
  rw [htl, show n + ((o :: l).toArray.size - (n + 1)) = l.length by simp; omega] at this
  simpa using this
end Go.Proofs.Ytimkbbdncajggaa
