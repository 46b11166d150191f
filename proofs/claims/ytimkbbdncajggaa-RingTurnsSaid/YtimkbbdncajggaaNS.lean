/- What All gives (S). -/
import Derived.Test.YtimkbbdncajggaaLS
import Derived.Test.YtimkbbdncajggaaRi
namespace Go.Proofs.Ytimkbbdncajggaa
open Go.RowKit Go.BigFrame Go.Shelf
attribute [local go_sem] Oper.semAt_some
abbrev encS (x : Nat × ByteArray) : Array Value := #[.int .i64 (x.1 : Nat), vals x.2]
def HdS (L : List (ByteArray)) (pre : List (Nat × ByteArray)) (x : Nat × ByteArray) (_ : World) : Prop := x.1 = pre.length ∧ L[pre.length]? = some x.2
def SpS (L : List (ByteArray)) (pre : List (Nat × ByteArray)) : Prop := pre.map (·.2) = L.take pre.length ∧ pre.length ≤ L.length
theorem SpS.next {L : List (ByteArray)} {pre : List (Nat × ByteArray)} {x : Nat × ByteArray} (h : SpS L pre) (hx : L[pre.length]? = some x.2) : SpS L (pre ++ [x]) := by
  obtain ⟨hk, he⟩ := List.getElem?_eq_some_iff.1 hx
  refine ⟨?_, by simp; omega⟩
  rw [List.map_append, h.1, List.length_append, List.length_singleton, List.take_succ_eq_append_getElem hk, he]
  rfl
set_option maxRecDepth 100000 in
set_option maxHeartbeats 4000000 in
theorem all1S_gives {w : World} {B Bn : Nat} {A : Option Addr} {c lim : Nat} {L : List (ByteArray)} {at_ : Nat} (T : Nat → Prop) (h : RingS w B A c lim L at_) (hB : Blk w Bn 32 #[.pointer (some ⟨B, 0, none⟩)]) (hT : ¬ T Bn) (hTf : ∀ k, Foot B A k → ¬ T k) :
    Gives Try.prog 33 #[.pointer (some ⟨Bn, 0, none⟩)] encS T (HdS L) (fun xs => xs.map (·.2) = L) (SpS L) w := by
  intro l J Jx W hwl hlW hkW hJ hJx hY h0
  have hBW : Blk W Bn 32 #[.pointer (some ⟨B, 0, none⟩)] := hB.keep hkW (fun h => h)
  have hRW := Lib.hid (h.keep hkW (fun _ _ h => h))
  have hBn := hB.lt
  have hlt := h.lt
  have hlen : L.length ≤ 64 := Nat.le_trans h.few h.most
  have c1 := hRW.out.blk.cell 1
  have b1 := hBW.cell 0
  clear hB hkW h
  refine (callsIn_wide (n := 1)).1 ?_
  refine callsIn_of_wp Try.func33 rfl trivial ?_ rfl
  simp only [Try.ntmps33, List.size_toArray, List.length_cons, List.length_nil, Nat.reduceAdd, Nat.reduceSub, Array.replicate_succ, Array.replicate_zero, List.push_toArray, List.append_toArray, List.nil_append, List.cons_append]
  have h1 : 1 ≤ 1 := Nat.le_refl 1
  gi_wp2_with fail
  clear c1 b1
  gi_loopw [9] (fun i wr => ∃ pre : List (Nat × ByteArray), i = .int .i64 (pre.length : Nat) ∧ SpS L pre ∧ J pre wr ∧ Keep (fun k => T k ∨ k = l) W wr) (fun i _ => L.length - (intOf i).toNat)
  case atStart => exact ⟨[], rfl, ⟨by simp, by simp⟩, h0, Keep.refl _ W⟩
  case round =>
    obtain ⟨pre, rfl, hS, hJs, hK⟩ := hrel
    have HS := Lib.hid hS
    have hle := hS.2
    have HJS := Lib.hid hJs
    have HK := Lib.hid hK
    have hRr := hRW.out.keep hK (fun k hf => fun hh => hh.elim (hTf k hf) (fun h3 => by have := hlt k hf; omega))
    have hbox : wr.cell? ⟨Bn, 0, none⟩ = some (.pointer (some ⟨B, 0, none⟩)) := (hBW.keep hK (fun h => h.elim hT (fun h => by omega))).cell 0
    have c1 : wr.cell? ⟨B, 1, none⟩ = some (.slice A L.length c) := hRr.blk.cell 1
    by_cases hlt2 : pre.length < L.length
    · obtain ⟨y, hy0⟩ : ∃ y, L[pre.length]? = some y := ⟨_, List.getElem?_eq_getElem hlt2⟩
      obtain ⟨g, o, rfl⟩ := hRr.tail.some_ (by omega)
      have hcy := hRr.tail.reads (L.length - 1 - pre.length) _ (cellss_get L pre.length y hy0)
      obtain ⟨g', o', e, hcell⟩ := hcy
      cases e
      have HR := Lib.hid hRr
      have HY0 := Lib.hid hy0
      clear hRr hS hJs hK hy0
      have HJ2 := Lib.hid (hJ _ _ wr.drew HJS (Keep.refl (fun _ => False) wr).drew)
      obtain ⟨fn, tmps, assign, body, hy, hR⟩ := hY pre (pre.length, y) wr.drew HJ2 ⟨rfl, HY0.out⟩
      have j1 : (L.length : Int) - 1 - (pre.length : Int) = ((L.length - 1 - pre.length : Nat) : Int) := by omega
      have j2 : L.length - 1 - pre.length < L.length := by omega
      gi_wp2_with fail
      refine regionIn_tail 16 (lets_wide 1 Try.prog) (by kernel_rfl) (by kernel_rfl) (by kernel_rfl) ?_
      simp only [List.take, List.drop]
      repeat (go_big_quiet_step (fail))
      refine wpQuiet_nil ?_
      gi_wp2_with fail
      refine hR.mono ?_
      rintro e W3 ⟨hk3, ⟨rfl, hJ3⟩ | ⟨rfl, hJx3⟩⟩
      · gi_wp2_with fail
        exact ⟨⟨pre ++ [(pre.length, y)], by simp, HS.out.next HY0.out, hJ3, Keep.trans (Keep.drew HK) hk3 (fun _ _ h => h)⟩, by simp [intOf]; omega⟩
      · gi_wp2_with fail
        refine bodyPost_ret (results_none rfl _ _ _) rfl ?_
        exact ⟨⟨_, rfl⟩, .inr ⟨_, HS.out.next HY0.out, hJx3⟩⟩
    · have hfull : pre.length = L.length := by omega
      clear hRr hS hJs hK hbox c1
      gi_wp2_with fail
      refine bodyPost_end (results_none rfl _ _ _) rfl ?_
      refine ⟨⟨_, rfl⟩, .inl ⟨pre, ?_, HJS⟩⟩
      rw [HS.out.1, hfull, List.take_length]
end Go.Proofs.Ytimkbbdncajggaa
