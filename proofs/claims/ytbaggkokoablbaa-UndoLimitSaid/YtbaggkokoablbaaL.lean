/- The walk of UndoLimit: it answers true, and keeps all that was there. -/
import Derived.Test.YtbaggkokoablbaaA
namespace Go.Proofs.Ytbaggkokoablbaa
open Go.RowKit Go.BigFrame

/-- The numbers from k - m to k. -/
def upto (k m : Nat) : List Int := (List.range (m + 1)).map fun j => ((k - m + j : Nat) : Int)

theorem upto_length (k m : Nat) : (upto k m).length = m + 1 := by simp [upto]
theorem upto_at (k m j : Nat) (hj : j ≤ m) : (upto k m)[j]? = some ((k - m + j : Nat) : Int) := by
  unfold upto
  rw [List.getElem?_map, List.getElem?_range (by omega)]
  rfl
theorem upto_step (k lim : Nat) (_h1 : 1 ≤ lim) :
    ((upto k (min k lim)).take (min k lim + 1) ++ [((k + 1 : Nat) : Int)]).drop (min k lim + 1 - lim) = upto (k + 1) (min (k + 1) lim) := by
  rw [List.take_of_length_le (by rw [upto_length]; omega)]
  apply List.ext_getElem?
  intro i
  rw [List.getElem?_drop]
  by_cases hi : i ≤ min (k + 1) lim
  · rw [upto_at _ _ _ hi]
    by_cases hl : min k lim + 1 - lim + i < min k lim + 1
    · rw [List.getElem?_append_left (by rw [upto_length]; omega), upto_at _ _ _ (by omega)]
      congr 2
      omega
    · have e : min k lim + 1 - lim + i = min k lim + 1 := by omega
      rw [e, List.getElem?_append_right (by rw [upto_length]; omega), upto_length]
      simp
      omega
  · rw [List.getElem?_eq_none (by rw [List.length_append, upto_length]; simp; omega), List.getElem?_eq_none (by rw [upto_length]; omega)]

def LRel (w : World) (b n lim : Nat) (i : Value) (wr : World) : Prop :=
  ∃ (k r : Nat), k ≤ n ∧ i = .int .i64 k ∧ w.heap.size ≤ r ∧ Keep (fun _ => False) w wr ∧ Log_i wr b r lim (upto k (min k lim)) (min k lim) 0

def LRel2 (w : World) (b n lim : Nat) (xs : List Int) (want : Nat) (i : Value) (wr : World) : Prop :=
  ∃ (k r : Nat), k ≤ want ∧ i = .int .i64 k ∧ w.heap.size ≤ r ∧ Keep (fun _ => False) w wr ∧ Log_i wr b r lim xs (want - k) 0

set_option maxHeartbeats 1000000 in
set_option maxRecDepth 100000 in
theorem limit_any (limit : Int) (n : Int) (w : World) :
    Calls Try.prog 4 #[.int .i64 limit, .int .i64 n] w fun e w' => e = .returned (.bool true) ∧ Keep (fun _ => False) w w' := by
  by_cases hneg : n < 0
  · go_enter Try.func4, Try.ntmps4
    go_wp2_with fail
    refine (alive_any w).mono ?_
    rintro e w1 ⟨rfl, hk⟩
    have HK := Lib.hid hk
    clear hk
    go_wp2
    go_ret
    exact ⟨rfl, HK.out⟩
  by_cases hbig : 400 < n
  · go_enter Try.func4, Try.ntmps4
    go_wp2_with fail
    refine (alive_any w).mono ?_
    rintro e w1 ⟨rfl, hk⟩
    have HK := Lib.hid hk
    clear hk
    go_wp2
    go_ret
    exact ⟨rfl, HK.out⟩
  obtain ⟨n, rfl⟩ : ∃ m : Nat, n = (m : Int) := ⟨n.toNat, by omega⟩
  go_enter Try.func4, Try.ntmps4
  go_wp2_with fail
  refine (new_i 0 limit w).mono ?_
  rintro e w1 ⟨b, r, lim, rfl, HL, hlim, hb, hr, hk⟩
  have l1 : 1 ≤ lim := by omega
  have l2 : lim ≤ 256 := by omega
  have l3 : limit ≤ (lim : Int) ∨ 256 ≤ lim := by omega
  have l4 : (lim : Int) ≤ limit ∨ lim ≤ 1 := by omega
  have HL1 := Lib.hid HL
  have HK1 := Lib.hid hk
  clear HL hk hlim
  go_wp2_with fail
  go_loopw [27] (LRel w b n lim) (fun i _ => n - (intOf i).toNat)
  case atStart => exact ⟨0, r, Nat.zero_le _, rfl, hr, HK1.out, by rw [Nat.zero_min]; exact HL1.out⟩
  case round =>
    obtain ⟨k, r', hk, rfl, hr', hK, hst⟩ := hrel
    have HK := Lib.hid hK
    have HST := Lib.hid hst
    clear hK hst HL1 HK1 hr
    by_cases hlt : k < n
    · go_wp2_with fail
      refine (doNewA_i (s := (k : Int) + 1) (v := ((k - min k lim + min k lim : Nat) : Int)) (g := 0) HST.out (by rw [upto_length]; omega) l1 l2 (upto_at _ _ _ (Nat.le_refl _)) (by simp; omega) (by omega)).mono ?_
      rintro e w2 ⟨r2, rfl, HL2, hr2, hk2⟩
      have HL2 : Hid (Log_i w2 b r2 lim (upto (k + 1) (min (k + 1) lim)) (min (k + 1) lim) 0) := by
        have e1 := upto_step k lim l1
        rw [Int.natCast_add] at e1
        have e2 : min (min k lim + 1) lim = min (k + 1) lim := by omega
        rw [← e1, ← e2]
        exact HL2
      have HK2 := Lib.hid (HK.out.trans hk2 (fun i hi e => by omega))
      have hr2' : w.heap.size ≤ r2 := Nat.le_trans HK.out.size hr2
      clear HST hk2 hr2
      go_wp2
      go_roundw
      case rel => exact ⟨k + 1, r2, by omega, by go_num, hr2', HK2.out, HL2.out⟩
      case measure => simp [intOf]; omega
    · obtain rfl : n = k := by omega
      clear hlt hk
      by_cases hnl : n ≤ lim
      · rw [show min n lim = n from by omega] at HST
        go_wp2_with fail
        all_goals
          refine (len_i HST.out (by rw [upto_length]; omega)).mono ?_
          rintro e w2 ⟨rfl, k2, rfl⟩
          go_wp2_with fail
          refine (now_i (v := (n : Int)) (HST.out.drewN k2) (by rw [upto_length]; omega) (by rw [upto_at _ _ _ (Nat.le_refl _)]; congr 2; omega)).mono ?_
          rintro e w3 ⟨rfl, k3, rfl⟩
          go_wp2_with fail
          obtain ⟨wo, rfl⟩ : ∃ wo : World, wo = wr := ⟨_, rfl⟩
          go_loopw [55] (LRel2 w b n lim (upto n n) n) (fun i _ => n - (intOf i).toNat)
          case atStart => exact ⟨0, r', Nat.zero_le _, rfl, hr', HK.out.drewN _, HST.out⟩
          case round =>
            obtain ⟨k', r2, hk', rfl, hr2, hK2, hst2⟩ := hrel
            have HK2 := Lib.hid hK2
            have HST2 := Lib.hid hst2
            clear hK2 hst2
            by_cases hlt : k' < n
            · go_wp2_with fail
              have HST3 : Hid (Log_i wr b r2 lim (upto n n) (n - k' - 1 + 1) 0) := by rw [show n - k' - 1 + 1 = n - k' from by omega]; exact HST2.out
              refine (undoYes_i (v := (n : Int) - 1 - k') HST3.out (by rw [upto_length]; omega) (by rw [upto_at _ _ _ (by omega)]; congr 1; omega)).mono ?_
              rintro e w4 ⟨rfl, HL4, hk4⟩
              have HL4 : Hid (Log_i w4 b r2 lim (upto n n) (n - (k' + 1)) 0) := by rw [show n - (k' + 1) = n - k' - 1 from by omega]; exact HL4
              have HK4 := Lib.hid (HK2.out.trans hk4 (fun i hi e => by omega))
              clear hk4 HST3 HST2
              go_wp2
              go_roundw
              case rel => exact ⟨k' + 1, r2, by omega, by go_num, hr2, HK4.out, HL4.out⟩
              case measure => simp [intOf]; omega
            · obtain rfl : n = k' := by omega
              rw [Nat.sub_self] at HST2
              clear hlt hk'
              go_wp2_with fail
              refine (undoNo_i (v := ((n - n + 0 : Nat) : Int)) HST2.out (by rw [upto_length]; omega) (upto_at _ _ _ (Nat.zero_le _))).mono ?_
              rintro e w4 ⟨rfl, k4, rfl⟩
              go_wp2_with fail
              refine (alive_any _).mono ?_
              rintro e w5 ⟨rfl, hk5⟩
              have HK5 := Lib.hid ((HK2.out.drewN k4).trans hk5 (fun _ _ h => h))
              clear hk5
              go_wp2
              go_ret
              exact ⟨rfl, HK5.out⟩
      · have hln : lim < n := by omega
        clear hnl
        rw [show min n lim = lim from by omega] at HST
        by_cases hlo : limit < 1
        · obtain rfl : lim = 1 := by omega
          clear l1 l2 l3 l4
          go_wp2_with fail
          all_goals
            refine (len_i HST.out (by rw [upto_length]; omega)).mono ?_
            rintro e w2 ⟨rfl, k2, rfl⟩
            go_wp2_with fail
            refine (now_i (v := (n : Int)) (HST.out.drewN k2) (by rw [upto_length]; omega) (by rw [upto_at _ _ _ (Nat.le_refl _)]; congr 2; omega)).mono ?_
            rintro e w3 ⟨rfl, k3, rfl⟩
            go_wp2_with fail
            obtain ⟨wo, rfl⟩ : ∃ wo : World, wo = wr := ⟨_, rfl⟩
            go_loopw [55] (LRel2 w b n 1 (upto n 1) 1) (fun i _ => 1 - (intOf i).toNat)
            case atStart => exact ⟨0, r', Nat.zero_le _, rfl, hr', HK.out.drewN _, HST.out⟩
            case round =>
              obtain ⟨k', r2, hk', rfl, hr2, hK2, hst2⟩ := hrel
              have HK2 := Lib.hid hK2
              have HST2 := Lib.hid hst2
              clear hK2 hst2
              by_cases hlt : k' < 1
              · go_wp2_with fail
                have HST3 : Hid (Log_i wr b r2 1 (upto n 1) (1 - k' - 1 + 1) 0) := by rw [show 1 - k' - 1 + 1 = 1 - k' from by omega]; exact HST2.out
                refine (undoYes_i (v := (n : Int) - 1 - k') HST3.out (by rw [upto_length]; omega) (by rw [upto_at _ _ _ (by omega)]; congr 1; omega)).mono ?_
                rintro e w4 ⟨rfl, HL4, hk4⟩
                have HL4 : Hid (Log_i w4 b r2 1 (upto n 1) (1 - (k' + 1)) 0) := by rw [show 1 - (k' + 1) = 1 - k' - 1 from by omega]; exact HL4
                have HK4 := Lib.hid (HK2.out.trans hk4 (fun i hi e => by omega))
                clear hk4 HST3 HST2
                go_wp2
                go_roundw
                case rel => exact ⟨k' + 1, r2, by omega, by go_num, hr2, HK4.out, HL4.out⟩
                case measure => simp [intOf]; omega
              · obtain rfl : 1 = k' := by omega
                rw [Nat.sub_self] at HST2
                clear hlt hk'
                go_wp2_with fail
                refine (undoNo_i (v := ((n - 1 + 0 : Nat) : Int)) HST2.out (by rw [upto_length]; omega) (upto_at _ _ _ (Nat.zero_le _))).mono ?_
                rintro e w4 ⟨rfl, k4, rfl⟩
                go_wp2_with fail
                refine (alive_any _).mono ?_
                rintro e w5 ⟨rfl, hk5⟩
                have HK5 := Lib.hid ((HK2.out.drewN k4).trans hk5 (fun _ _ h => h))
                clear hk5
                go_wp2
                go_ret
                exact ⟨rfl, HK5.out⟩
        by_cases hhi : 256 < limit
        · obtain rfl : lim = 256 := by omega
          clear l1 l2 l3 l4 hlo
          go_wp2_with fail
          all_goals
            refine (len_i HST.out (by rw [upto_length]; omega)).mono ?_
            rintro e w2 ⟨rfl, k2, rfl⟩
            go_wp2_with fail
            refine (now_i (v := (n : Int)) (HST.out.drewN k2) (by rw [upto_length]; omega) (by rw [upto_at _ _ _ (Nat.le_refl _)]; congr 2; omega)).mono ?_
            rintro e w3 ⟨rfl, k3, rfl⟩
            go_wp2_with fail
            obtain ⟨wo, rfl⟩ : ∃ wo : World, wo = wr := ⟨_, rfl⟩
            go_loopw [55] (LRel2 w b n 256 (upto n 256) 256) (fun i _ => 256 - (intOf i).toNat)
            case atStart => exact ⟨0, r', Nat.zero_le _, rfl, hr', HK.out.drewN _, HST.out⟩
            case round =>
              obtain ⟨k', r2, hk', rfl, hr2, hK2, hst2⟩ := hrel
              have HK2 := Lib.hid hK2
              have HST2 := Lib.hid hst2
              clear hK2 hst2
              by_cases hlt : k' < 256
              · go_wp2_with fail
                have HST3 : Hid (Log_i wr b r2 256 (upto n 256) (256 - k' - 1 + 1) 0) := by rw [show 256 - k' - 1 + 1 = 256 - k' from by omega]; exact HST2.out
                refine (undoYes_i (v := (n : Int) - 1 - k') HST3.out (by rw [upto_length]; omega) (by rw [upto_at _ _ _ (by omega)]; congr 1; omega)).mono ?_
                rintro e w4 ⟨rfl, HL4, hk4⟩
                have HL4 : Hid (Log_i w4 b r2 256 (upto n 256) (256 - (k' + 1)) 0) := by rw [show 256 - (k' + 1) = 256 - k' - 1 from by omega]; exact HL4
                have HK4 := Lib.hid (HK2.out.trans hk4 (fun i hi e => by omega))
                clear hk4 HST3 HST2
                go_wp2
                go_roundw
                case rel => exact ⟨k' + 1, r2, by omega, by go_num, hr2, HK4.out, HL4.out⟩
                case measure => simp [intOf]; omega
              · obtain rfl : 256 = k' := by omega
                rw [Nat.sub_self] at HST2
                clear hlt hk'
                go_wp2_with fail
                refine (undoNo_i (v := ((n - 256 + 0 : Nat) : Int)) HST2.out (by rw [upto_length]; omega) (upto_at _ _ _ (Nat.zero_le _))).mono ?_
                rintro e w4 ⟨rfl, k4, rfl⟩
                go_wp2_with fail
                refine (alive_any _).mono ?_
                rintro e w5 ⟨rfl, hk5⟩
                have HK5 := Lib.hid ((HK2.out.drewN k4).trans hk5 (fun _ _ h => h))
                clear hk5
                go_wp2
                go_ret
                exact ⟨rfl, HK5.out⟩
        obtain rfl : limit = (lim : Int) := by omega
        clear l3 l4 hlo hhi
        go_wp2_with fail
        all_goals
          refine (len_i HST.out (by rw [upto_length]; omega)).mono ?_
          rintro e w2 ⟨rfl, k2, rfl⟩
          go_wp2_with fail
          refine (now_i (v := (n : Int)) (HST.out.drewN k2) (by rw [upto_length]; omega) (by rw [upto_at _ _ _ (Nat.le_refl _)]; congr 2; omega)).mono ?_
          rintro e w3 ⟨rfl, k3, rfl⟩
          go_wp2_with fail
          obtain ⟨wo, rfl⟩ : ∃ wo : World, wo = wr := ⟨_, rfl⟩
          go_loopw [55] (LRel2 w b n lim (upto n lim) lim) (fun i _ => lim - (intOf i).toNat)
          case atStart => exact ⟨0, r', Nat.zero_le _, rfl, hr', HK.out.drewN _, HST.out⟩
          case round =>
            obtain ⟨k', r2, hk', rfl, hr2, hK2, hst2⟩ := hrel
            have HK2 := Lib.hid hK2
            have HST2 := Lib.hid hst2
            clear hK2 hst2
            by_cases hlt : k' < lim
            · go_wp2_with fail
              have HST3 : Hid (Log_i wr b r2 lim (upto n lim) (lim - k' - 1 + 1) 0) := by rw [show lim - k' - 1 + 1 = lim - k' from by omega]; exact HST2.out
              refine (undoYes_i (v := (n : Int) - 1 - k') HST3.out (by rw [upto_length]; omega) (by rw [upto_at _ _ _ (by omega)]; congr 1; omega)).mono ?_
              rintro e w4 ⟨rfl, HL4, hk4⟩
              have HL4 : Hid (Log_i w4 b r2 lim (upto n lim) (lim - (k' + 1)) 0) := by rw [show lim - (k' + 1) = lim - k' - 1 from by omega]; exact HL4
              have HK4 := Lib.hid (HK2.out.trans hk4 (fun i hi e => by omega))
              clear hk4 HST3 HST2
              go_wp2
              go_roundw
              case rel => exact ⟨k' + 1, r2, by omega, by go_num, hr2, HK4.out, HL4.out⟩
              case measure => simp [intOf]; omega
            · obtain rfl : lim = k' := by omega
              rw [Nat.sub_self] at HST2
              clear hlt hk'
              go_wp2_with fail
              refine (undoNo_i (v := ((n - lim + 0 : Nat) : Int)) HST2.out (by rw [upto_length]; omega) (upto_at _ _ _ (Nat.zero_le _))).mono ?_
              rintro e w4 ⟨rfl, k4, rfl⟩
              go_wp2_with fail
              refine (alive_any _).mono ?_
              rintro e w5 ⟨rfl, hk5⟩
              have HK5 := Lib.hid ((HK2.out.drewN k4).trans hk5 (fun _ _ h => h))
              clear hk5
              go_wp2
              go_ret
              exact ⟨rfl, HK5.out⟩
end Go.Proofs.Ytbaggkokoablbaa
