/- frame.Pack walked. -/
import Derived.Test.YtopdedhdfaomfaaC2
import Derived.Test.YtopdedhdfaomfaaK
namespace Go.Proofs.Ytopdedhdfaomfaa
open Go.RowKit Go.BigFrame
theorem ReadsAs.blk {w : World} {g : Nat} {t : TypeId} {xs : List Value} (h : Blk w g t xs.toArray) : ReadsAs w (some ⟨g, 0, none⟩) xs := by
  intro i u hu
  refine ⟨g, 0, rfl, ?_⟩
  rw [Nat.zero_add, h.cell]
  simpa using hu
theorem BytesAt.blk {w : World} {g : Nat} {t : TypeId} {b : List Nat} (h : Blk w g t (b.map bv).toArray) (hl : ∀ x ∈ b, x < 256) : BytesAt w (some ⟨g, 0, none⟩) b := ⟨ReadsAs.blk h, hl⟩
theorem Fresh.base_le {w : World} {base base' : Nat} {e : TypeId} {A : Option Addr} {n c : Nat} {xs : List Value} (h : Fresh w base e A n c xs) (hb : base' ≤ base) : Fresh w base' e A n c xs := by
  refine ⟨h.1, ?_⟩
  rcases h.2 with h0 | ⟨g, cap, cur, hv, hg, hr⟩
  · exact .inl h0
  · exact .inr ⟨g, cap, cur, hv, by omega, hr⟩
theorem Fresh.none_ {w : World} {base : Nat} {e : TypeId} {A : Option Addr} {n c : Nat} {xs : List Value} (h : Fresh w base e A n c xs) : A = none → xs.length = 0 ∧ c = 0 := by
  rintro rfl
  rcases h.2 with ⟨hv, h0⟩ | ⟨g, cap, cur, hv, hg, hr⟩
  · injection hv with _ h2 h3
    refine ⟨by rw [h.1, h0], h3⟩
  · cases hv
theorem pack_long (A : Option Addr) (n c : Nat) (w : World) (hn : 1000 < n) (hm : n ≤ 140737488351232) :
    Calls Try.prog 9 #[.slice A n c] w fun e w' => e = .returned (.tuple #[.slice none 0 0, .int .i64 112]) ∧ w' = w := by
  go_enter Try.func9, Try.ntmps9
  go_wp2_with fail
  go_ret2
  exact ⟨rfl, rfl⟩
def PackPost (w : World) (b : List Nat) (e : Ending) (w' : World) : Prop :=
  ∃ A c, e = .returned (.tuple #[.slice A b.length c, .int .i64 0]) ∧ Fresh w' w.heap.size 5 A b.length c (b.map bv) ∧ Keep (fun _ => False) w w'
set_option maxRecDepth 100000 in
set_option maxHeartbeats 2000000 in
theorem pack_does (A : Option Addr) (c : Nat) (p : List Nat) (w : World) (hb : BytesAt w A p) (hn : A = none → p.length = 0 ∧ c = 0) (hl : p.length ≤ 1000) :
    Calls Try.prog 9 #[.slice A p.length c] w (PackPost w (frameB p)) := by
  have HB := Lib.hid hb
  have HN := Lib.hid hn
  clear hb hn
  go_enter Try.func9, Try.ntmps9
  go_wp2_with fail
  have hw : w.alloc (.cells #[.int .u8 ((p.length : Int) % 256), .int .u8 ((p.length : Int) / 256)] 5) = w.alloc (.cells ((headB p.length).map bv).toArray 5) := by
    have e : ((p.length / 256 % 256 : Nat) : Int) = (p.length : Int) / 256 := by omega
    have e2 : ((p.length % 256 : Nat) : Int) = (p.length : Int) % 256 := by omega
    rw [← e, ← e2]
    rfl
  rw [hw]
  clear hw
  have HH := Lib.hid (Blk.new w 5 ((headB p.length).map bv).toArray)
  have HK : Hid (Keep (fun _ => False) w (w.alloc (.cells ((headB p.length).map bv).toArray 5))) := (Keep.refl _ w).alloc _
  have HZ : Hid (w.heap.size < (w.alloc (.cells ((headB p.length).map bv).toArray 5)).heap.size) := by simp [Hid]
  generalize w.alloc (.cells ((headB p.length).map bv).toArray 5) = w1 at *
  refine (of_does (some ⟨w.heap.size, 0, none⟩) 2 (headB p.length) _ (BytesAt.blk HH (headB_lt _)) (by simp [headB])).mono ?_
  rintro e w2 ⟨rfl, hk⟩
  have HK2 : Hid (Keep (fun _ => False) w w2) := Keep.trans HK hk (fun _ _ h => h)
  have HH2 : Hid (Blk w2 w.heap.size 5 ((headB p.length).map bv).toArray) := Blk.keep HH hk (fun h => h)
  clear hk HK HH HZ
  go_wp2_with fail
  refine (add_does (ofB (headB p.length)) A c p _ (BytesAt.keep HB HK2) (by omega)).mono ?_
  rintro e w3 ⟨rfl, hk⟩
  rw [ofB_snoc]
  have HK3 : Hid (Keep (fun _ => False) w w3) := Keep.trans HK2 hk (fun _ _ h => h)
  have HH3 : Hid (Blk w3 w.heap.size 5 ((headB p.length).map bv).toArray) := Blk.keep HH2 hk (fun h => h)
  clear hk HK2 HH2
  go_wp2_with fail
  refine (bytes_does (ofB (headB p.length ++ p)) _).mono ?_
  rintro e w4 ⟨rfl, hk⟩
  have HK4 : Hid (Keep (fun _ => False) w w4) := Keep.trans HK3 hk (fun _ _ h => h)
  have HH4 : Hid (Blk w4 w.heap.size 5 ((headB p.length).map bv).toArray) := Blk.keep HH3 hk (fun h => h)
  clear hk HK3 HH3
  unfold fourA
  go_wp2_with fail
  have hfl : [headB p.length, bytes4 (ofB (headB p.length ++ p)), p].flatten = frameB p := by simp [frameB]
  have hlf := frameB_length p
  rw [← hfl] at hlf
  have HFL := Lib.hid hfl
  clear hfl
  generalize ofB (headB p.length ++ p) = s at *
  have hcon : ∀ W, RowsAt W (some ⟨w4.heap.size + 1, 0, none⟩) [headB p.length, bytes4 s, p] → Calls Try.prog 21 #[.slice (some ⟨w4.heap.size + 1, 0, none⟩) 3 3] W (BytesPost W [headB p.length, bytes4 s, p].flatten) := fun W h =>
    concat_does _ 3 [headB p.length, bytes4 s, p] W h (by simp) (by omega)
  have HK5 : Hid (Keep (fun _ => False) w ((w4.alloc (.cells (fourA s) 40)).alloc (.cells #[.slice (some ⟨w.heap.size, 0, none⟩) 2 2, .slice (some ⟨w4.heap.size, 0, none⟩) 4 4, .slice A p.length c] 23))) := Keep.alloc (Keep.alloc HK4 _) _
  have hrows : RowsAt ((w4.alloc (.cells (fourA s) 40)).alloc (.cells #[.slice (some ⟨w.heap.size, 0, none⟩) 2 2, .slice (some ⟨w4.heap.size, 0, none⟩) 4 4, .slice A p.length c] 23)) (some ⟨w4.heap.size + 1, 0, none⟩) [headB p.length, bytes4 s, p] := by
    have hB := Blk.new (w4.alloc (.cells (fourA s) 40)) 23 #[.slice (some ⟨w.heap.size, 0, none⟩) 2 2, .slice (some ⟨w4.heap.size, 0, none⟩) 4 4, .slice A p.length c]
    rw [World.size_alloc] at hB
    have hF : Blk ((w4.alloc (.cells (fourA s) 40)).alloc (.cells #[.slice (some ⟨w.heap.size, 0, none⟩) 2 2, .slice (some ⟨w4.heap.size, 0, none⟩) 4 4, .slice A p.length c] 23)) w4.heap.size 40 ((bytes4 s).map bv).toArray := (Blk.new w4 40 (fourA s)).alloc _
    have hH : Blk ((w4.alloc (.cells (fourA s) 40)).alloc (.cells #[.slice (some ⟨w.heap.size, 0, none⟩) 2 2, .slice (some ⟨w4.heap.size, 0, none⟩) 4 4, .slice A p.length c] 23)) w.heap.size 5 ((headB p.length).map bv).toArray := (Blk.alloc HH4 _).alloc _
    intro i b hi
    match i, hi with
    | 0, hi =>
      simp at hi
      subst hi
      exact ⟨_, _, some ⟨w.heap.size, 0, none⟩, 2, rfl, by rw [hB.cell]; rfl, BytesAt.blk hH (headB_lt _), (fun h => by cases h), by simp [headB]⟩
    | 1, hi =>
      simp at hi
      subst hi
      exact ⟨_, _, some ⟨w4.heap.size, 0, none⟩, 4, rfl, by rw [hB.cell]; rfl, BytesAt.blk hF (bytes4_lt _), (fun h => by cases h), by simp [bytes4]⟩
    | 2, hi =>
      simp at hi
      subst hi
      exact ⟨_, _, A, c, rfl, by rw [hB.cell]; rfl, BytesAt.keep HB HK5, HN, by omega⟩
  refine (hcon _ hrows).mono ?_
  clear hcon hrows
  rintro e w6 ⟨A6, c6, rfl, hF, hk⟩
  rw [HFL.out] at hF ⊢
  have HK6 : Hid (Keep (fun _ => False) w w6) := Keep.trans HK5 hk (fun _ _ h => h)
  have HF6 : Hid (Fresh w6 w.heap.size 5 A6 (frameB p).length c6 ((frameB p).map bv)) := hF.base_le (Keep.size HK5)
  clear hF hk hlf HK5 HK4 HH4 HFL
  generalize frameB p = fr at *
  go_wp2_with fail
  exact bodyPost_ret (v := .tuple #[.slice A6 fr.length c6, .int .i64 0]) (by simp [results, Try.results9, go_sem]) rfl ⟨A6, c6, rfl, HF6, HK6⟩
end Go.Proofs.Ytopdedhdfaomfaa
