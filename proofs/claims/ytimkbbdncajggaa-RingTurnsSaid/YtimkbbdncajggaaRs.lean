/- The reference's ring walked: New, Top, Do. -/
import Derived.Test.YtimkbbdncajggaaDo
import Derived.Maps.AppendAt
namespace Go.Proofs.Ytimkbbdncajggaa
open Go.RowKit Go.BigFrame Go.Shelf
structure StAt (w : World) (A : Option Addr) (c : Nat) (L : List ByteArray) : Prop where
  reads : ReadsAs w A (L.map vals)
  le : L.length ≤ c
  max : c ≤ 9223372036854775807
  nil : A = none → L.length = 0 ∧ c = 0
theorem StAt.keep {w w' : World} {A : Option Addr} {c : Nat} {L : List ByteArray} (h : StAt w A c L) (hk : Keep (fun _ => False) w w') : StAt w' A c L := ⟨h.reads.keep hk (fun _ _ _ h => h), h.le, h.max, h.nil⟩
abbrev stV (lim : Nat) (A : Option Addr) (n c : Nat) (at_ : Nat) : Value := .agg #[.int .i64 (lim : Nat), .slice A n c, .int .i64 (at_ : Nat)]
theorem refNew_does (limit : Int) (w : World) : Calls Try.prog 21 #[.int .i64 limit] w fun e w' => e = .returned (stV (clampN limit) none 0 0 0) ∧ Keep (fun _ => False) w w' := by
  obtain ⟨h1, h2, h3⟩ := clampN_bd limit
  go_enter Try.func21, Try.ntmps21
  go_wp2_with fail
  · have e : (clampN limit : Int) = 1 := by omega
    show bodyPost _ _ (fun e w' => e = Ending.returned (.agg #[.int .i64 (clampN limit : Int), .slice none 0 0, .int .i64 0]) ∧ Keep (fun _ => False) w w') _ _ _
    rw [e]
    refine bodyPost_ret (v := .agg #[.int .i64 1, .slice none 0 0, .int .i64 0]) (by simp [results, Try.results21, go_sem]) rfl ⟨rfl, (Keep.refl _ w).alloc _⟩
  · have e : (clampN limit : Int) = 64 := by omega
    show bodyPost _ _ (fun e w' => e = Ending.returned (.agg #[.int .i64 (clampN limit : Int), .slice none 0 0, .int .i64 0]) ∧ Keep (fun _ => False) w w') _ _ _
    rw [e]
    refine bodyPost_ret (v := .agg #[.int .i64 64, .slice none 0 0, .int .i64 0]) (by simp [results, Try.results21, go_sem]) rfl ⟨rfl, (Keep.refl _ w).alloc _⟩
  · have e : (clampN limit : Int) = limit := by omega
    show bodyPost _ _ (fun e w' => e = Ending.returned (.agg #[.int .i64 (clampN limit : Int), .slice none 0 0, .int .i64 0]) ∧ Keep (fun _ => False) w w') _ _ _
    rw [e]
    refine bodyPost_ret (v := .agg #[.int .i64 limit, .slice none 0 0, .int .i64 0]) (by simp [results, Try.results21, go_sem]) rfl ⟨rfl, (Keep.refl _ w).alloc _⟩
theorem refTop_does {w : World} {A : Option Addr} {c lim : Nat} {L : List ByteArray} {at_ : Nat} (h : StAt w A c L) (hat : at_ < L.length ∨ (L.length = 0 ∧ at_ = 0)) (hl : L.length ≤ 64) :
    Calls Try.prog 37 #[stV lim A L.length c at_] w fun e w' => e = .returned (.tuple #[vals (topS L at_), .bool (decide (0 < L.length))]) ∧ Keep (fun _ => False) w w' := by
  by_cases h0 : L.length = 0
  · have hL : L = [] := List.eq_nil_of_length_eq_zero h0
    subst hL
    clear h
    go_enter Try.func37, Try.ntmps37
    go_wp2_with fail
    refine bodyPost_ret (v := .tuple #[.string ⟨#[]⟩, .bool false]) (by simp [results, Try.results37, go_sem]) rfl ⟨by simp [topS], (Keep.refl _ w).alloc _⟩
  · have hat1 : at_ < L.length := by omega
    obtain ⟨x, hx⟩ : ∃ x, L[at_]? = some x := ⟨_, List.getElem?_eq_getElem hat1⟩
    obtain ⟨g, o, rfl, hcell⟩ := h.reads at_ (vals x) (by rw [List.getElem?_map, hx]; rfl)
    have ht : topS L at_ = x := by unfold topS; rw [hx]; rfl
    have hb : decide (0 < L.length) = true := decide_eq_true (by omega)
    rw [ht, hb]
    have hp : 0 < L.length := by omega
    have hi : ¬ (L.length : Int) = 0 := by omega
    have hib : ((L.length : Int) == 0) = false := by simpa using hi
    have hc2 := cell_alloc_some hcell (.cells #[.int .i64 (lim : Nat), .slice (some ⟨g, o, none⟩) L.length c, .int .i64 (at_ : Nat)] 43)
    clear h ht hb hx
    go_enter Try.func37, Try.ntmps37
    go_wp2_with fail
    refine bodyPost_ret (v := .tuple #[vals x, .bool true]) (by simp [results, Try.results37, go_sem]) rfl ⟨rfl, (Keep.refl _ w).alloc _⟩
end Go.Proofs.Ytimkbbdncajggaa
