/- bytes.Equal, slices.Clone, slices.Grow, slices.Concat walked. -/
import Derived.Test.YtopdedhdfaomfaaA
import Derived.Laws.BytesArg
import Derived.Shelf.Bytes.SlSmallAll
import Derived.Lib.LazyBuf
namespace Go.Proofs.Ytopdedhdfaomfaa
open Go.RowKit Go.BigFrame
/-- Bytes as a string. -/
def strB (b : List Nat) : ByteArray := strOfNums (b.map (fun x : Nat => (x : Int)))
theorem strB_list (b : List Nat) : (strB b).toList = b.map UInt8.ofNat := by
  show (strOfNums (b.map (fun x : Nat => (x : Int)))).toList = _
  rw [Lib.strOfNums_toList]
  unfold Lib.bytesOf
  simp
theorem strB_eq {a b : List Nat} (ha : ∀ x ∈ a, x < 256) (hb : ∀ x ∈ b, x < 256) : ((strB a).toList == (strB b).toList) = decide (a = b) := by
  rw [strB_list, strB_list]
  by_cases h : a = b
  · subst h; simp
  · rw [decide_eq_false h, beq_eq_false_iff_ne]
    intro he
    apply h
    have hl : a.length = b.length := by simpa using congrArg List.length he
    apply List.ext_getElem hl
    intro i h1 h2
    have := congrArg (·[i]?) he
    simp [h1, h2] at this
    have e := congrArg UInt8.toNat this
    simp at e
    have := ha _ (List.getElem_mem h1)
    have := hb _ (List.getElem_mem h2)
    omega
theorem convert_bytes {w : World} {A : Option Addr} {b : List Nat} (h : BytesAt w A b) (c : Nat) : (convert 23 9 (.slice A b.length c)).run Try.prog w = .ok (.string (strB b)) w := by
  by_cases hn : b.length = 0
  · have : b = [] := List.eq_nil_of_length_eq_zero hn
    subst this
    exact run_convert_bytes_zero w 23 5 Try.underlying23 Try.underlying5 A c 9 Try.underlying9
  · obtain ⟨g, o, rfl, _⟩ := h.get (k := 0) (by omega)
    refine run_convert_bytes_arg (P := Try.prog) w 23 5 Try.underlying23 Try.underlying5 g o b.length c _ (by simp) ?_ 9 Try.underlying9
    intro i hi
    obtain ⟨g', o', e, hc, _⟩ := h.get hi
    cases e
    rw [hc]
    simp [hi]
set_option maxHeartbeats 1000000 in
theorem equal_does (A B : Option Addr) (c d : Nat) (a b : List Nat) (w : World) (ha : BytesAt w A a) (hb : BytesAt w B b) :
    Calls Try.prog 12 #[.slice A a.length c, .slice B b.length d] w fun e w' => e = .returned (.bool (decide (a = b))) ∧ w' = w := by
  have h1 := convert_bytes ha c
  have h2 := convert_bytes hb d
  rw [← strB_eq ha.2 hb.2]
  generalize strB a = s at *
  generalize strB b = t at *
  clear ha hb
  go_enter Try.func12, Try.ntmps12
  go_wp2_with fail
  go_ret
  exact ⟨rfl, rfl⟩
/-- New bytes are handed back. -/
def BytesPost (w : World) (b : List Nat) (e : Ending) (w' : World) : Prop :=
  ∃ A c, e = .returned (.slice A b.length c) ∧ Fresh w' w.heap.size 5 A b.length c (b.map bv) ∧ Keep (fun _ => False) w w'
theorem keep_new {w wr w2 : World} {A : Option Addr} {n c : Nat} {xs : List Value} {t : TypeId} (hk : Keep (fun _ => False) w wr) (hF : Fresh wr w.heap.size t A n c xs) (h : Keep (fun k => ∃ o, A = some ⟨k, o, none⟩) wr w2) : Keep (fun _ => False) w w2 :=
  hk.trans h (by
    rintro i hi ⟨o', ho⟩
    have := (hF.block i o' ho).1
    omega)
set_option maxHeartbeats 1000000 in
theorem clone_does (A : Option Addr) (c : Nat) (b : List Nat) (w : World) (hb : BytesAt w A b) (hn : A = none → b.length = 0 ∧ c = 0) (hl : b.length ≤ 100000) :
    Calls Try.prog 23 #[.slice A b.length c] w (BytesPost w b) := by
  obtain ⟨i0, hi, hz0, hz1, hz2⟩ := info_parts info_byte
  cases A with
  | none =>
    obtain ⟨h0, rfl⟩ := hn rfl
    have hbe : b = [] := List.eq_nil_of_length_eq_zero h0
    subst hbe
    have hq := Lib.run_eql_slice_nil (P := Try.prog) w 23 5 none 0 0 0 0 Try.underlying23
    simp only [List.length_nil]
    clear hb hn
    go_enter Try.func23, Try.ntmps23
    go_wp2_with fail
    go_ret
    exact ⟨none, 0, rfl, World.ownsRow_nil _ _ _ _, Keep.refl _ w⟩
  | some ad =>
    have hq := Lib.run_eql_slice_nil (P := Try.prog) w 23 5 (some ad) b.length c 0 0 Try.underlying23
    have HF : Hid (Fresh (w.alloc (.cells #[] 5)) w.heap.size 5 (some ⟨w.heap.size, 0, none⟩) 0 0 []) := Fresh.made w 5 (Nat.le_refl _)
    have HK : Hid (Keep (fun _ => False) w (w.alloc (.cells #[] 5))) := (Keep.refl _ w).alloc _
    have HR : Hid (ReadsAs (w.alloc (.cells #[] 5)) (some ad) (b.map bv)) := (hb.keep HK).1
    have HL := Lib.hid (show (b.map bv).length = b.length from List.length_map _)
    have HO := Lib.hid (bytes_oneCell b)
    clear hb hn
    go_enter Try.func23, Try.ntmps23
    go_wp2_with (at_builtin; go_must (refine wpList_append_onto1 _ rfl _ _ _ rfl w.heap.size 5 i0 (.int .u8 0) 1 Try.underlying23 hi hz0 hz1 hz2 rfl _ 0 0 [] rfl HF.out (some ad) b.length c (b.map bv) rfl HL.out HR.out (fun h => by cases h) HO.out (by omega) (by omega) (by simp) ?_))
    intro A' c' w2 hF hK
    have HK2 : Hid (Keep (fun _ => False) w w2) := Keep.trans HK hK (fun i hi (h : w.heap.size = i) => by omega)
    have HF2 := Lib.hid hF
    clear hF hK hq HL HO HR
    go_wp2_with fail
    refine bodyPost_ret (v := .slice A' b.length c') (by simp [results, Try.results23, go_sem]) rfl ⟨A', c', rfl, ?_, HK2⟩
    simpa using (show Fresh _ _ _ _ _ _ _ from HF2)
theorem Fresh.shrink {w : World} {base : Nat} {e : TypeId} {A : Option Addr} {n c : Nat} {xs : List Value} (h : Fresh w base e A n c xs) : Fresh w base e A 0 c [] ∨ (A = none ∧ c = 0) := by
  rcases h.2 with ⟨hv, h0⟩ | ⟨g, cap, cur, hv, hg, hh, hnc, hcm, hsz, htk⟩
  · injection hv with h1 h2 h3
    exact .inr ⟨h1, h3⟩
  · injection hv with h1 h2 h3
    subst h1 h3
    exact .inl ⟨by simp, .inr ⟨g, _, cur, rfl, hg, hh, by omega, hcm, hsz, by simp⟩⟩
def GrowPost (w : World) (e : Ending) (w' : World) : Prop :=
  ∃ A c, e = .returned (.slice A 0 c) ∧ Fresh w' w.heap.size 5 A 0 c [] ∧ Keep (fun _ => False) w w'
set_option maxHeartbeats 1000000 in
theorem grow_does (n : Nat) (w : World) (hl : n ≤ 100000) : Calls Try.prog 28 #[.slice none 0 0, .int .i64 n] w (GrowPost w) := by
  obtain ⟨i0, hi, hz0, hz1, hz2⟩ := info_parts info_byte
  by_cases h0 : n = 0
  · subst h0
    go_enter Try.func28, Try.ntmps28
    go_wp2_with fail
    go_ret
    exact ⟨none, 0, rfl, World.ownsRow_nil _ _ _ _, Keep.refl _ w⟩
  · have HF : Hid (Fresh w w.heap.size 5 none 0 0 []) := World.ownsRow_nil _ _ _ _
    have hp : (0 : Int) < n := by omega
    go_enter Try.func28, Try.ntmps28
    go_wp2_with (at_builtin; go_must (refine wpList_append_make _ rfl _ _ _ _ rfl w.heap.size 5 i0 (.int .u8 0) Try.underlying23 Try.underlying3 hi hz0 hz1 hz2 rfl rfl none 0 0 [] rfl HF.out n rfl (by omega) (Nat.le_refl _) ?_))
    intro A' c' w2 hF hK
    have HK2 : Hid (Keep (fun _ => False) w w2) := hK.mono (fun i hi h => by simp at h)
    have hF0 : Fresh w2 w.heap.size 5 A' 0 c' [] := by
      rcases hF.shrink with h | ⟨rfl, rfl⟩
      · exact h
      · exact World.ownsRow_nil _ _ _ _
    have HF2 := Lib.hid hF0
    clear hF hK hF0
    go_wp2_with fail
    refine bodyPost_ret (v := .slice A' 0 c') (by simp [results, Try.results28, go_sem]) rfl ⟨A', c', rfl, HF2, HK2⟩
end Go.Proofs.Ytopdedhdfaomfaa
