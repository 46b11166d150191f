/- The reference's number and Pack walked. -/
import Derived.Test.YtopdedhdfaomfaaLe
import Derived.Test.YtopdedhdfaomfaaRo
namespace Go.Proofs.Ytopdedhdfaomfaa
open Go.RowKit Go.BigFrame
set_option maxRecDepth 100000 in
set_option maxHeartbeats 2000000 in
theorem num_does (A : Option Addr) (n c : Nat) (b : List Nat) (w : World) (hn : b.length = n) (hb : BytesAt w A b) (hl : n ≤ 4) : Calls Try.prog 25 #[.slice A n c] w fun e w' => e = .returned (.int .i64 (le b : Nat)) ∧ w' = w := by
  have HB := Lib.hid hb
  have HN := Lib.hid hn
  clear hb hn
  go_enter Try.func25, Try.ntmps25
  go_wp2_with fail
  go_loopw [3, 4] (fun y i wr => ∃ m : Nat, m ≤ n ∧ i = .int .i64 ((m : Int) - 1) ∧ y = .int .i64 (le (b.drop m) : Nat) ∧ wr = w) (fun _ i _ => (intOf i + 1).toNat)
  case atStart =>
    refine ⟨n, by omega, rfl, ?_, rfl⟩
    rw [List.drop_of_length_le (by rw [HN.out]; omega)]
    rfl
  case round =>
    obtain ⟨m, hm, rfl, rfl, rfl⟩ := hrel
    by_cases hz : m = 0
    · subst hz
      rw [List.drop_zero]
      go_wp2_with fail
      go_ret
      exact ⟨rfl, rfl⟩
    · obtain ⟨k, rfl⟩ : ∃ k, m = k + 1 := ⟨m - 1, by omega⟩
      obtain ⟨g, o, rfl, hc, hx⟩ := (show BytesAt wr A b from HB).get (k := k) (by rw [HN.out]; omega)
      have hd : le (b.drop k) = b[k]'(by rw [HN.out]; omega) + 256 * le (b.drop (k + 1)) := by
        rw [List.drop_eq_getElem_cons (by rw [HN.out]; omega)]
        rfl
      have hlt := le_lt (b.drop (k + 1)) (fun x hx => (show BytesAt wr _ b from HB).2 x (List.mem_of_mem_drop hx))
      have hp : 2 ^ (8 * (b.drop (k + 1)).length) ≤ 2 ^ 32 := Nat.pow_le_pow_right (by omega) (by rw [List.length_drop, HN.out]; omega)
      generalize b[k]'(by rw [HN.out]; omega) = x at *
      generalize le (b.drop (k + 1)) = z at *
      have HD := Lib.hid hd
      have hz2 : z < 4294967296 := by omega
      clear hd hlt hp
      go_wp2_with fail
      refine ⟨⟨k, by omega, rfl, ?_, trivial⟩, by simp [intOf]⟩
      rw [HD.out]
      congr 1
      push_cast
      omega
theorem le_two (b : List Nat) (h : 2 ≤ b.length) : le (b.take 2) = many b := by
  match b, h with
  | x :: y :: r, _ => simp [le, many]
theorem take_bytes4 (s : BitVec 32) (k : Nat) (h : k < 4) : (bytes4 s).take (k + 1) = (bytes4 s).take k ++ [byteOf s k] := by
  unfold bytes4
  match k, h with
  | 0, _ => simp
  | 1, _ => simp
  | 2, _ => simp
  | 3, _ => simp
def RefPackPost (w : World) (b : List Nat) (e : Ending) (w' : World) : Prop :=
  ∃ A c, e = .returned (.tuple #[.slice A b.length c, .int .i64 0]) ∧ Fresh w' w.heap.size 5 A b.length c (b.map bv) ∧ Keep (fun _ => False) w w'
theorem refPack_long (A : Option Addr) (n c : Nat) (w : World) (hn : 1000 < n) (hm : n ≤ 140737488351232) :
    Calls Try.prog 13 #[.slice A n c] w fun e w' => e = .returned (.tuple #[.slice none 0 0, .int .i64 112]) ∧ w' = w := by
  go_enter Try.func13, Try.ntmps13
  go_wp2_with fail
  go_ret2
  exact ⟨rfl, rfl⟩
theorem refOf_at (A0 : Option Addr) (n c0 : Nat) (b : List Nat) (w : World) (hn : b.length = n) (hb : BytesAt w A0 b) (hl : n ≤ 1200) : Calls Try.prog 22 #[.slice A0 n c0] w fun e w' => e = .returned (uv (ofB b)) ∧ Keep (fun _ => False) w w' := by
  subst hn
  exact refOf_does A0 c0 b w hb hl
set_option maxRecDepth 100000 in
set_option maxHeartbeats 4000000 in
theorem refPack_does (A : Option Addr) (n c : Nat) (p : List Nat) (w : World) (hpn : p.length = n) (hb : BytesAt w A p) (hn : A = none → p.length = 0 ∧ c = 0) (hl : n ≤ 1000) :
    Calls Try.prog 13 #[.slice A n c] w (RefPackPost w (frameB p)) := by
  obtain ⟨i0, hi, hz0, hz1, hz2⟩ := info_parts info_byte
  have HB := Lib.hid hb
  have HN : Hid (A = none → n = 0 ∧ c = 0) := fun h => ⟨hpn ▸ (hn h).1, (hn h).2⟩
  have HPN := Lib.hid hpn
  have HFE : Hid (frameB p = headB n ++ (bytes4 (ofB (headB n ++ p)) ++ p)) := by rw [← hpn]; rfl
  clear hb hn hpn
  go_enter Try.func13, Try.ntmps13
  have hlen2 : (headB n).length = 2 := rfl
  have HH2 := Lib.hid hlen2
  have HLP := Lib.hid (show (p.map bv).length = n by rw [List.length_map]; exact HPN.out)
  have HLH := Lib.hid (show ((headB n).map bv).length = 2 by rw [List.length_map]; rfl)
  have HOP := Lib.hid (bytes_oneCell p)
  have HOH := Lib.hid (bytes_oneCell (headB n))
  have hw : w.alloc (.cells #[.int .u8 ((n : Int) % 256), .int .u8 ((n : Int) / 256)] 5) = w.alloc (.cells ((headB n).map bv).toArray 5) := by
    have e : ((n / 256 % 256 : Nat) : Int) = (n : Int) / 256 := by omega
    have e2 : ((n % 256 : Nat) : Int) = (n : Int) % 256 := by omega
    rw [← e, ← e2]
    rfl
  have hB1 : Blk (w.alloc (.cells #[.int .u8 ((n : Int) % 256), .int .u8 ((n : Int) / 256)] 5)) w.heap.size 5 ((headB n).map bv).toArray := by rw [hw]; exact Blk.new _ _ _
  have hK1 : Keep (fun _ => False) w ((w.alloc (.cells #[.int .u8 ((n : Int) % 256), .int .u8 ((n : Int) / 256)] 5)).alloc (.cells #[] 5)) := ((Keep.refl _ w).alloc _).alloc _
  have R1 := Lib.hid (ReadsAs.blk (hB1.alloc (.cells #[] 5)))
  have B1 := Lib.hid (hB1.alloc (.cells #[] 5))
  have F1 : Hid (Fresh ((w.alloc (.cells #[.int .u8 ((n : Int) % 256), .int .u8 ((n : Int) / 256)] 5)).alloc (.cells #[] 5)) (w.heap.size + 1) 5 (some ⟨w.heap.size + 1, 0, none⟩) 0 0 []) := by
    have := Fresh.made (w.alloc (.cells #[.int .u8 ((n : Int) % 256), .int .u8 ((n : Int) / 256)] 5)) 5 (base := w.heap.size + 1) (by simp)
    rw [World.size_alloc] at this
    exact this
  have K1 := Lib.hid hK1
  clear hw hlen2 hB1 hK1
  go_wp2_with (at_builtin; go_must (refine wpList_append_onto1 _ rfl _ _ _ rfl (w.heap.size + 1) 5 i0 (.int .u8 0) 1 Try.underlying23 hi hz0 hz1 hz2 rfl (some ⟨w.heap.size + 1, 0, none⟩) 0 0 [] rfl F1.out (some ⟨w.heap.size, 0, none⟩) 2 2 ((headB n).map bv) rfl rfl R1.out (fun h => by cases h) HOH.out (by omega) (by omega) (by simp) ?_))
  intro A2 c2 w2 hF2 hK2
  have HF2 : Hid (Fresh w2 (w.heap.size + 1) 5 A2 2 c2 ((headB n).map bv)) := hF2
  have hk2 : Keep (fun k => w.heap.size + 1 = k) ((w.alloc (.cells #[.int .u8 ((n : Int) % 256), .int .u8 ((n : Int) / 256)] 5)).alloc (.cells #[] 5)) w2 := by simpa using hK2
  have HB2 := Lib.hid (Blk.keep B1 hk2 (by omega))
  have HK2 : Hid (Keep (fun _ => False) w w2) := Keep.trans K1 hk2 (fun i hi (h : w.heap.size + 1 = i) => by omega)
  have HS2 : Hid (w.heap.size + 1 ≤ w2.heap.size) := Nat.le_trans (by simp) hk2.size
  have HP2 := Lib.hid (BytesAt.keep HB HK2).1
  clear hF2 hK2 hk2 B1 R1 F1 K1
  go_wp2_with (at_builtin; go_must (refine wpList_append_onto1 _ rfl _ _ _ rfl (w.heap.size + 1) 5 i0 (.int .u8 0) 1 Try.underlying23 hi hz0 hz1 hz2 rfl A2 2 c2 ((headB n).map bv) rfl HF2.out A n c (p.map bv) rfl HLP.out HP2.out HN.out HOP.out (by omega) (by omega) HS2.out ?_))
  intro A3 c3 w3 hF3 hK3
  rw [← List.map_append] at hF3
  have hk3 : Keep (fun k => w.heap.size + 1 ≤ k) w2 w3 := hK3.mono (fun i hi ⟨o, ho⟩ => (Fresh.block HF2 i o ho).1)
  have HB3 := Lib.hid (Blk.keep HB2 hk3 (by omega))
  have HK3 : Hid (Keep (fun _ => False) w w3) := Keep.trans HK2 hk3 (fun i hi h => by omega)
  have HA3 : Hid (BytesAt w3 A3 (headB n ++ p)) := Fresh.bytes hF3 (fun x hx => by
    rcases List.mem_append.1 hx with h | h
    · exact headB_lt _ x h
    · exact (show BytesAt w A p from HB).2 x h)
  clear hF3 hK3 hk3 HF2 HB2 HK2 HS2 HP2
  go_wp2_with fail
  refine (refOf_at A3 (2 + n) c3 (headB n ++ p) _ (by rw [List.length_append, HPN.out, HH2.out]) HA3 (by omega)).mono ?_
  rintro e w4 ⟨rfl, hk4⟩
  have HB4 := Lib.hid (Blk.keep HB3 hk4 (fun h => h))
  have HK4 : Hid (Keep (fun _ => False) w w4) := Keep.trans HK3 hk4 (fun _ _ h => h)
  clear hk4 HB3 HK3 HA3
  generalize ofB (headB n ++ p) = s at *
  have R5 := Lib.hid (ReadsAs.blk (Blk.alloc HB4 (.cells #[] 5)))
  have F5 : Hid (Fresh (w4.alloc (.cells #[] 5)) w4.heap.size 5 (some ⟨w4.heap.size, 0, none⟩) 0 0 []) := Fresh.made w4 5 (Nat.le_refl _)
  have K5 : Hid (Keep (fun _ => False) w (w4.alloc (.cells #[] 5))) := Keep.alloc HK4 _
  go_wp2_with (at_builtin; go_must (refine wpList_append_onto1 _ rfl _ _ _ rfl w4.heap.size 5 i0 (.int .u8 0) 1 Try.underlying23 hi hz0 hz1 hz2 rfl (some ⟨w4.heap.size, 0, none⟩) 0 0 [] rfl F5.out (some ⟨w.heap.size, 0, none⟩) 2 2 ((headB n).map bv) rfl rfl R5.out (fun h => by cases h) HOH.out (by omega) (by omega) (by simp) ?_))
  intro A6 c6 w6 hF6 hK6
  have HF6 : Hid (Fresh w6 w.heap.size 5 A6 2 c6 ((headB n).map bv)) := Fresh.base_le hF6 (Keep.size HK4)
  have HK6 : Hid (Keep (fun _ => False) w w6) := Keep.trans K5 hK6 (fun i hi (h : w4.heap.size = i) => by have := Keep.size HK4; omega)
  clear hF6 hK6 R5 F5 K5 HB4 HK4
  go_wp2_with fail
  go_loopw [6, 5, 7] (fun y z i wr => ∃ (k : Nat) (A7 : Option Addr) (c7 : Nat), k ≤ 4 ∧ i = .int .i64 k ∧ z = Value.int .u32 (iv (s >>> (8 * k))) ∧ y = .slice A7 (2 + k) c7 ∧ Fresh wr w.heap.size 5 A7 (2 + k) c7 ((headB n ++ (bytes4 s).take k).map bv) ∧ Keep (fun _ => False) w wr) (fun _ _ i _ => 4 - (intOf i).toNat)
  case atStart =>
    refine ⟨0, A6, c6, by omega, rfl, ?_, rfl, ?_, HK6⟩
    · rfl
    · rw [List.take_zero, List.append_nil]; exact HF6
  case round =>
    clear HF6 HK6
    obtain ⟨k, A7, c7, hk, rfl, rfl, rfl, hF, hkeep⟩ := hrel
    have HF := Lib.hid hF
    have HK := Lib.hid hkeep
    by_cases hlt : k < 4
    · have hz0' : 0 ≤ iv (s >>> (8 * k)) := Int.natCast_nonneg _
      have hz1' := iv_lt (s >>> (8 * k))
      have hby : Value.int .u8 (iv (s >>> (8 * k)) % 256) = bv (byteOf s k) := by simp [iv, byteOf, Nat.shiftRight_eq_div_pow]
      have hnx : iv (s >>> (8 * k)) / 256 = iv (s >>> (8 * (k + 1))) := by
        rw [iv_shr8, ← BitVec.shiftRight_add]
        rfl
      have hsn : headB n ++ (bytes4 s).take (k + 1) = headB n ++ (bytes4 s).take k ++ [byteOf s k] := by
        rw [List.append_assoc, take_bytes4 s k hlt]
      have HBY := Lib.hid hby
      have HNX := Lib.hid hnx
      have HSN := Lib.hid hsn
      clear hby hnx hsn hF
      generalize iv (s >>> (8 * k)) = z at *
      have HF2 : Hid (Fresh (wr.alloc (.cells #[.int .u8 (z % 256)] 5)) w.heap.size 5 A7 (2 + k) c7 ((headB n ++ (bytes4 s).take k).map bv)) := Fresh.alloc HF _
      have HK2 : Hid (Keep (fun _ => False) w (wr.alloc (.cells #[.int .u8 (z % 256)] 5))) := Keep.alloc HK _
      have HS2 := Lib.hid (Keep.size HK2)
      clear hkeep HF
      go_wp2_with (at_builtin; go_must (refine wpList_append_onto1 _ rfl _ _ _ rfl w.heap.size 5 i0 (.int .u8 0) 1 Try.underlying23 hi hz0 hz1 hz2 rfl A7 (2 + k) c7 ((headB n ++ (bytes4 s).take k).map bv) rfl HF2.out (some ⟨wr.heap.size, 0, none⟩) 1 1 [.int .u8 (z % 256)] rfl rfl reads_one (fun h => nomatch h) (fun u hu => by simp at hu; subst hu; rfl) (by omega) (by omega) HS2.out ?_))
      intro A8 c8 w8 hF8 hK8
      rw [HBY.out] at hF8
      have HF8 : Hid (Fresh w8 w.heap.size 5 A8 (2 + k + 1) c8 ((headB n ++ (bytes4 s).take (k + 1)).map bv)) := by
        have e : (headB n ++ (bytes4 s).take (k + 1)).map bv = (headB n).map bv ++ (((bytes4 s).map bv).take k ++ [bv (byteOf s k)]) := by
          rw [HSN.out]
          simp
        rw [e]
        exact hF8
      have HK8 := Lib.hid (keep_new HK2 HF2 hK8)
      clear hF8 hK8 HF2 HK2 HS2
      go_wp2_with fail
      exact ⟨⟨k + 1, A8, c8, by omega, by push_cast; rfl, by rw [HNX.out], rfl, HF8, HK8⟩, by simp [intOf]; omega⟩
    · have : k = 4 := by omega
      subst this
      have HP7 := Lib.hid (BytesAt.keep HB HK).1
      have HS7 := Lib.hid (Keep.size HK)
      clear hF hkeep
      go_wp2_with (at_builtin; go_must (refine wpList_append_onto1 _ rfl _ _ _ rfl w.heap.size 5 i0 (.int .u8 0) 1 Try.underlying23 hi hz0 hz1 hz2 rfl A7 6 c7 ((headB n ++ (bytes4 s).take 4).map bv) rfl HF.out A n c (p.map bv) rfl HLP.out HP7.out HN.out HOP.out (by omega) (by omega) HS7.out ?_))
      intro A8 c8 w8 hF8 hK8
      have HK8 := Lib.hid (keep_new HK HF hK8)
      have hfl := frameB_length p
      rw [HPN.out] at hfl
      have hF9 : Fresh w8 w.heap.size 5 A8 (frameB p).length c8 ((frameB p).map bv) := by
        rw [hfl, HFE.out, ← List.append_assoc, List.map_append]
        exact hF8
      have HF9 := Lib.hid hF9
      have HFL := Lib.hid hfl
      clear hF8 hK8 HF HK hF9 hfl
      go_wp2_with fail
      refine bodyPost_ret (v := .tuple #[.slice A8 (6 + n) c8, .int .i64 0]) (by simp [results, Try.results13, go_sem]) rfl ⟨A8, c8, ?_, HF9, HK8⟩
      rw [HFL.out]
end Go.Proofs.Ytopdedhdfaomfaa
