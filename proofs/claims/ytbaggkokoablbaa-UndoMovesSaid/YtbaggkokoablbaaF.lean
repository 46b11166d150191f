/- 'few': it answers yes of at most 400 calls alone, and keeps all that was there. -/
import Derived.Test.YtbaggkokoablbaaRows
import Derived.Test.YtbaggkokoablbaaB2
import Derived.WalkKit
import Derived.WalkSpells
import Derived.WalkLawsBesides
namespace Go.Proofs.Ytbaggkokoablbaa
open Go.RowKit Go.BigFrame

/-- A call of the script: its kind, its text, its group. -/
structure Op where
  kind : Int
  s : ByteArray
  g : Int

/-- A slice of such calls, nil let in. -/
def OpsAt (w : World) (A : Option Addr) (l : List Op) : Prop :=
  ∀ (i : Nat) (x : Op), l[i]? = some x → ∃ b o, A = some ⟨b, o, none⟩ ∧ b < w.heap.size ∧ w.cell? ⟨b, o + i * 3, none⟩ = some (.int .i64 x.kind) ∧ w.cell? ⟨b, o + i * 3 + 1, none⟩ = some (.string x.s) ∧ w.cell? ⟨b, o + i * 3 + 2, none⟩ = some (.int .i64 x.g) ∧
    x.s.size ≤ maxLen

theorem OpsAt.keep {w w' : World} {A : Option Addr} {l : List Op} (h : OpsAt w A l) (hk : Keep (fun _ => False) w w') : OpsAt w' A l := by
  intro i x hx
  obtain ⟨b, o, hA, hb, h1, h2, h3, h4⟩ := h i x hx
  exact ⟨b, o, hA, Nat.lt_of_lt_of_le hb hk.size, (hk.cell (p := ⟨b, _, none⟩) hb (fun h => h)).trans h1, (hk.cell (p := ⟨b, _, none⟩) hb (fun h => h)).trans h2, (hk.cell (p := ⟨b, _, none⟩) hb (fun h => h)).trans h3, h4⟩

def FewPost (w : World) (l : List Op) (e : Ending) (w' : World) : Prop := ∃ fb, e = .returned (.bool fb) ∧ (fb = true → l.length ≤ 400) ∧ Keep (fun _ => False) w w'

set_option maxHeartbeats 400000 in
theorem few_any (A : Option Addr) (c : Nat) (l : List Op) (w : World) (h : OpsAt w A l) (hn : l.length * 32 ≤ 140737488351232) :
    Calls Try.prog 19 #[.slice A l.length c] w (FewPost w l) := by
  have H := Lib.hid h
  clear h
  go_enter Try.func19, Try.ntmps19
  go_wp2_with fail
  go_loopw [3, 8] (fun n i wr => ∃ (k : Nat) (v : Int), k ≤ l.length ∧ i = .int .i64 k ∧ n = .int .i64 v ∧ Keep (fun _ => False) w wr) (fun _ i _ => l.length - (intOf i).toNat)
  case atStart => exact ⟨0, 0, Nat.zero_le _, rfl, rfl, Keep.refl _ _⟩
  case round =>
    obtain ⟨k, v, hk, rfl, rfl, hK⟩ := hrel
    have HK := Lib.hid hK
    clear hK
    by_cases hlt : k < l.length
    · obtain ⟨x, hx⟩ : ∃ x, l[k]? = some x := ⟨_, List.getElem?_eq_getElem hlt⟩
      obtain ⟨b, o, rfl, hb, h0, h1, h2, hsz⟩ := (H.out.keep HK.out) k x hx
      clear hx
      unfold maxLen at hsz
      go_wp2
      go_roundw
      case rel => exact ⟨k + 1, _, by omega, by go_num, rfl, HK.out.alloc _⟩
      case measure => simp [intOf]; omega
    · by_cases hl : l.length ≤ 400
      · go_wp2
        go_ret
        exact ⟨_, rfl, fun _ => hl, HK.out⟩
      · have hd : decide ((l.length : Int) ≤ 400) = false := by simp; omega
        go_wp2
        go_ret
        exact ⟨_, rfl, (fun h => by cases h), HK.out⟩
end Go.Proofs.Ytbaggkokoablbaa
