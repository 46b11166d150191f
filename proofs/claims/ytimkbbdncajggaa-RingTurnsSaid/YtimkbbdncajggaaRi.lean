/- A region that draws its order, inside a fence (also in a round): the head reads, the tail is carried out in the text's order. -/
import Derived.Test.YtimkbbdncajggaaR
import Derived.StillTailTactics
import Derived.Deep.QuietTactic
import Derived.BigQuiet
import Derived.OrdersIn
namespace Go.Proofs.Ytimkbbdncajggaa
open Go.RowKit
section
variable {F : Fence} {n : Nat} {P : Program} {ops : Array Oper} {md : Region.Mode} {w : World} {Q : Exit → Act → World → Prop}
def noDeferB (ops : Array Oper) : Bool := ops.all fun o => match o.op with | .defer _ => false | _ => true
theorem noDefer_spec (h : noDeferB ops = true) : ∀ (i : Nat) (o : Oper), ops[i]? = some o → ∀ c, o.op ≠ .defer c := by
  intro i o ho c hc
  unfold noDeferB at h
  rw [Array.all_eq_true] at h
  obtain ⟨hi, he⟩ := Array.getElem?_eq_some_iff.1 ho
  have := h i hi
  rw [he, hc] at this
  cases this
/-- What is asked of a fence: it lets in all that runs. -/
def Lets (F : Fence) (n : Nat) (P : Program) : Prop := (∀ f, F.fn f) ∧ F.depth = none ∧ ∀ (f : FuncId) (args : Array Value) (w : World) (R : Ending → World → Prop), Calls P f args w R → CallsIn F (n - 1) P f args w R
theorem lets_wide (n : Nat) (P : Program) : Lets Fence.wide n P := ⟨fun _ => trivial, rfl, fun _ _ _ _ h => callsIn_wide.2 h⟩
theorem lets_round (l n : Nat) (P : Program) : Lets (Fence.wide.inRound l) n P := ⟨fun _ => trivial, rfl, fun _ _ _ _ h => callsIn_wide.2 h⟩
theorem opIn_of_still (hF : Lets F n P) {o : Oper} {a : Act} {K : Act → Prop} {K' : Act → World → Prop} (hdef : ∀ c, o.op ≠ .defer c) (h : ∀ a', K a' → K' a' w) (hh : o.still P a w K) : o.wpIn F n P a w K' Q := by
  refine ⟨fun f _ => hF.1 f, ?_⟩
  rw [Oper.semAt_eq _ _ _ hdef]
  unfold Oper.still at hh
  generalize (execOp a.eval o).run P w = r at *
  cases r with
  | ok nx w' =>
    cases nx <;> simp only [Oper.stillUpon] at hh <;> simp only [Oper.uponIn]
    case value => obtain ⟨rfl, hk⟩ := hh; exact h _ hk
    case skip => obtain ⟨rfl, hk⟩ := hh; exact h _ hk
    case enter f args =>
      obtain ⟨rfl, v, hc, hn⟩ := hh
      exact ⟨fun hs => (by rw [hF.2.1] at hs; cases hs), (hF.2.2 _ _ _ _ hc).mono (by rintro e w2 ⟨rfl, rfl⟩; exact h _ hn)⟩
  | halt x w' => simp only [Oper.stillUpon] at hh
theorem wpOpIn_of_stOp (hF : Lets F n P) (hD : ∀ (i : Nat) (o : Oper), ops[i]? = some o → ∀ c, o.op ≠ .defer c) {i : Nat} {a : Act} {K : Act → Prop} {K' : Act → World → Prop} (h : ∀ a', K a' → K' a' w) (hh : stOp P ops w i K a) : wpOpIn F n P ops Q i K' a w := by
  unfold stOp at hh
  unfold wpOpIn
  cases ho : ops[i]? with
  | none => rw [ho] at hh; exact h _ hh
  | some o =>
    rw [ho] at hh
    simp only at hh ⊢
    split
    · next hw => rw [if_pos hw] at hh; exact opIn_of_still hF (hD i o ho) h hh
    · next hw => rw [if_neg hw] at hh; exact ⟨fun f _ => hF.1 f, h _ hh⟩
theorem wpAnyIn_of_head (hF : Lets F n P) (hD : ∀ (i : Nat) (o : Oper), ops[i]? = some o → ∀ c, o.op ≠ .defer c) {k g : Nat} {L : Array Bool → Act → Prop} (hL : ∀ listed a, L listed a → wpAnyIn F n P md ops Q g listed a w) :
    ∀ (f : Nat) (listed : Array Bool) (a : Act), wpAnyL P md ops w k L f listed a → wpAnyIn F n P md ops Q (f + g) listed a w
  | 0, listed, a, h => by rw [Nat.zero_add]; exact hL _ _ h
  | f + 1, listed, a, h => by
    rw [show f + 1 + g = (f + g) + 1 by omega]
    exact ⟨fun h0 => absurd h0 h.1, fun i hi => wpOpIn_of_stOp hF hD (fun a' h' => wpAnyIn_of_head hF hD hL f _ a' h') (h.2 i hi).2⟩
theorem wpAnyIn_of_seq : ∀ (l : List Oper) (k : Nat) (listed : Array Bool) (a : Act) (w : World), (∀ j, l[j]? = ops[k + j]?) →
    Region.seqB md ops l.length k listed = true → wpListIn F n P ops Q l a w → wpAnyIn F n P md ops Q l.length listed a w
  | [], _, _, _, _, _, hB, h => ⟨by simpa [Region.seqB] using hB, h⟩
  | o :: l, k, listed, a, w, hl, hB, h => by
    have h0 : ops[k]? = some o := by simpa using (hl 0).symm
    simp only [List.length_cons, Region.seqB, Bool.and_eq_true, decide_eq_true_eq] at hB
    refine ⟨fun h1 => (by rw [hB.1] at h1; cases h1), fun i hi => ?_⟩
    rw [hB.1] at hi
    have hik : i = k := by simpa using hi
    subst hik
    have hw : wpOpIn F n P ops Q i (wpListIn F n P ops Q l) a w := by unfold wpOpIn; simp only [h0]; exact h
    exact wpOpIn_mono (fun a' w' h' => wpAnyIn_of_seq l (i + 1) _ a' w' (fun j => by have := hl (j + 1); simpa [Nat.add_assoc, Nat.add_comm 1 j] using this) hB.2 h') hw
theorem wpAnyIn_of_still (hF : Lets F n P) (hD : ∀ (i : Nat) (o : Oper), ops[i]? = some o → ∀ c, o.op ≠ .defer c) {K : Act → Prop} (hQ : ∀ a, K a → Q .normal a w) :
    ∀ (f : Nat) (listed : Array Bool) (a : Act), wpAnyS P md ops w K f listed a → wpAnyIn F n P md ops Q f listed a w
  | 0, _, _, h => ⟨h.1, hQ _ h.2⟩
  | f + 1, _, _, h => ⟨fun h0 => hQ _ (h.1 h0), fun i hi => wpOpIn_of_stOp hF hD (fun a' h' => wpAnyIn_of_still hF hD hQ f _ a' h') (h.2 i hi)⟩
theorem opIn_of_quiet (hF : Lets F n P) {C : World → Prop} {o : Oper} {a : Act} {K : Act → Prop} {K' : Act → World → Prop} {w : World} (hdef : ∀ c, o.op ≠ .defer c) (hw : C w) (h : ∀ a' w', C w' → K a' → K' a' w') (hh : o.quiet P a C K) : o.wpIn F n P a w K' Q := by
  obtain ⟨v, h1, h2⟩ := hh
  have h3 := h1 w hw
  refine ⟨fun f _ => hF.1 f, ?_⟩
  rw [Oper.semAt_eq _ _ _ hdef]
  unfold Oper.quietAt at h3
  generalize (execOp a.eval o).run P w = r at *
  cases r with
  | ok nx w' =>
    cases nx <;> simp only [Oper.quietUpon] at h3 <;> simp only [Oper.uponIn]
    case value u => obtain ⟨e1, e2⟩ := h3; rw [e1, e2]; exact h _ _ hw h2
    case skip => obtain ⟨e1, e2⟩ := h3; rw [e1, ← e2]; exact h _ _ hw h2
    case enter f args =>
      obtain ⟨e1, hc⟩ := h3
      rw [e1]
      exact ⟨fun hs => (by rw [hF.2.1] at hs; cases hs), (hF.2.2 _ _ _ _ hc).mono (by rintro e w2 ⟨rfl, hw2⟩; exact h _ _ hw2 h2)⟩
  | halt x w' => simp only [Oper.quietUpon] at h3
theorem wpOpIn_of_qOp (hF : Lets F n P) (hD : ∀ (i : Nat) (o : Oper), ops[i]? = some o → ∀ c, o.op ≠ .defer c) {C : World → Prop} {i : Nat} {a : Act} {K : Act → Prop} {K' : Act → World → Prop} {w : World} (hw : C w) (h : ∀ a' w', C w' → K a' → K' a' w') (hh : qOp P ops C i K a) : wpOpIn F n P ops Q i K' a w := by
  unfold qOp at hh
  unfold wpOpIn
  cases ho : ops[i]? with
  | none => rw [ho] at hh; exact h _ _ hw hh
  | some o =>
    rw [ho] at hh
    simp only at hh ⊢
    split
    · next hw' => rw [if_pos hw'] at hh; exact opIn_of_quiet hF (hD i o ho) hw h hh
    · next hw' => rw [if_neg hw'] at hh; exact ⟨fun f _ => hF.1 f, h _ _ hw hh⟩
theorem wpAnyIn_of_quiet' (hF : Lets F n P) (hD : ∀ (i : Nat) (o : Oper), ops[i]? = some o → ∀ c, o.op ≠ .defer c) {C : World → Prop} {K : Act → Prop} (hQ : ∀ a w, C w → K a → Q .normal a w) :
    ∀ (f : Nat) (listed : Array Bool) (a : Act) (w : World), C w → wpAnyQ P md ops C K f listed a → wpAnyIn F n P md ops Q f listed a w
  | 0, _, _, _, hw, h => ⟨h.1, hQ _ _ hw h.2⟩
  | f + 1, _, _, _, hw, h => ⟨fun h0 => hQ _ _ hw (h.1 h0), fun i hi => wpOpIn_of_qOp hF hD hw (fun a' w' hw' h' => wpAnyIn_of_quiet' hF hD hQ f _ a' w' hw' h') (h.2 i hi)⟩
/-- All of it reads. -/
theorem regionIn_quiet {id : Nat} {a : Act} {w : World} {l : List Oper} (hF : Lets F n P) (hm : P.follows .mixedOrders = true) (hB : Region.lexB .any l.toArray = true) (hD : noDeferB l.toArray = true)
    (h : wpQuiet P l.toArray (fun w' => ∃ m, w' = w.drewN m) (fun a' => ∀ w', (∃ m, w' = w.drewN m) → Q .normal a' w') l a) : (Code.region id l.toArray true).wpIn F n P Q a w := by
  simp only [Region.lexB, Bool.and_eq_true] at hB
  refine wpIn_region_any hm (wpAnyIn_of_quiet' (C := fun w' => ∃ m, w' = w.drewN m) hF (noDefer_spec hD) (K := fun a' => ∀ w', (∃ m, w' = w.drewN m) → Q .normal a' w') (fun _ w' hw' h => h w' hw') _ _ _ _ ⟨1, rfl⟩ ?_)
  have := wpAnyQ_lex (md := .any) hB.1 l 0 (Array.replicate l.toArray.size false) a (by simp) (by simpa using hB.2) h
  simpa using this
/-- The head reads, the tail is carried out in the text's order. -/
theorem regionIn_tail {id : Nat} {a : Act} {w : World} {l : List Oper} (k : Nat) (hF : Lets F n P) (hm : P.follows .mixedOrders = true) (hB : Region.lexTailB .any l.toArray k = true) (hD : noDeferB l.toArray = true)
    (h : wpQuiet P l.toArray (fun w' => w' = w.drew) (fun a' => wpListIn F n P l.toArray Q (l.drop k) a' w.drew) (l.take k) a) : (Code.region id l.toArray true).wpIn F n P Q a w := by
  simp only [Region.lexTailB, Bool.and_eq_true, decide_eq_true_eq] at hB
  obtain ⟨⟨⟨⟨hsel, hn⟩, hs⟩, hc⟩, hlex⟩ := hB
  have hn' : k < l.length := by simpa using hn
  have htl : (l.take k).length = k := by simp; omega
  have hdl : (l.drop k).length = l.toArray.size - k := by simp
  have inv0 : HeadInv .any l.toArray k (Array.replicate l.toArray.size false) :=
    ⟨by simp, fun j oj _ hl => (by rw [getD_replicate_false] at hl; cases hl), fun t _ ht => getD_in (by simpa using ht) (getD_replicate_false _ _)⟩
  have H := wpAnyL_lex (md := .any) (g := l.toArray.size - k) hsel hs hc hn (l.take k) 0 _ a (fun j hj => by
    have hj' : j < k := by rw [htl] at hj; exact hj
    simp [hj']) (by simpa using htl) inv0 (by rw [htl]; exact hlex) (wpStill_of_quiet _ _ h)
  refine wpIn_region_any hm ?_
  have := wpAnyIn_of_head (F := F) (n := n) (Q := Q) (w := w.drew) hF (noDefer_spec hD) (g := l.toArray.size - k) (fun listed a' hL => by
    have := wpAnyIn_of_seq (F := F) (n := n) (md := .any) (Q := Q) (l.drop k) k listed a' w.drew (fun j => by simp [List.getElem?_drop]) (by rw [hdl]; exact hL.1) hL.2
    rwa [hdl] at this) _ _ _ H
  rw [htl, show k + (l.toArray.size - k) = l.toArray.size by omega] at this
  exact this
/-- In a round as outside it, where nothing is deferred. -/
theorem opIn_round (l : Nat) {o : Oper} {a : Act} {K : Act → World → Prop} {w : World} (_hro : F.round = none) (hdef : ∀ c, o.op ≠ .defer c) (hh : o.wpIn F n P a w K Q) : o.wpIn (F.inRound l) n P a w K Q := by
  refine ⟨hh.1, ?_⟩
  have h2 := hh.2
  rw [Oper.semAt_eq _ _ _ hdef] at h2 ⊢
  generalize (execOp a.eval o).run P w = r at *
  cases r with
  | ok nx w' => cases nx <;> exact h2
  | halt x w' => cases x <;> exact h2
theorem wpAnyIn_round (l : Nat) (hro : F.round = none) (hD : ∀ (i : Nat) (o : Oper), ops[i]? = some o → ∀ c, o.op ≠ .defer c) :
    ∀ (f : Nat) (listed : Array Bool) (a : Act) (w : World), wpAnyIn F n P md ops Q f listed a w → wpAnyIn (F.inRound l) n P md ops Q f listed a w
  | 0, _, _, _, h => h
  | f + 1, listed, a, w, h => ⟨h.1, fun i hi => by
    have h2 := wpOpIn_mono (fun a' w' h' => wpAnyIn_round l hro hD f _ a' w' h') (h.2 i hi)
    unfold wpOpIn at h2 ⊢
    cases ho : ops[i]? with
    | none => rw [ho] at h2; exact h2
    | some o =>
      rw [ho] at h2
      simp only at h2 ⊢
      split
      · next hw => rw [if_pos hw] at h2; exact opIn_round l hro (hD i o ho) h2
      · next hw => rw [if_neg hw] at h2; exact h2⟩
theorem regionIn_round {id : Nat} {a : Act} {w : World} {ops : List Oper} (l : Nat) (hro : F.round = none) (hm : P.follows .mixedOrders = true) (hD : noDeferB ops.toArray = true)
    (h : wpAnyIn F n P .any ops.toArray Q ops.length (Array.replicate ops.length false) a w.drew) : (Code.region id ops.toArray true).wpIn (F.inRound l) n P Q a w :=
  wpIn_region_any hm (wpAnyIn_round l hro (noDefer_spec hD) _ _ _ _ (by simpa using h))
end
end Go.Proofs.Ytimkbbdncajggaa
