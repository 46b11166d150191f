/- alive walked: the sum of nine digits. -/
import Derived.Test.YtibjllfabalfjaaW
import Derived.Lib.SlBytesConst
import Derived.Lib.SmallJoins
import Derived.DeepKeys
namespace Go.Proofs.Ytibjllfabalfjaa
open Go.RowKit Go.BigFrame
def Onto (w0 w : World) : Prop := Keep (fun _ => False) w0 w
theorem of_in {w0 w : World} {A : Option Addr} {c n : Nat} {b : List Nat} (hk : Onto w0 w) (hb : BytesAt w0 A b) (hl : b.length ≤ 1000000) (hn : n = b.length) :
    Calls Try.prog 11 #[.slice A n c] w fun e w' => e = .returned (uv (ofB b)) ∧ Onto w0 w' := by
  subst hn
  refine (of_does A c b w (hb.keep hk) hl).mono ?_
  rintro e w' ⟨rfl, h⟩
  exact ⟨rfl, Keep.trans hk h (fun _ _ h => h)⟩
theorem add_in {w0 w : World} {A : Option Addr} {c n : Nat} {b : List Nat} (s : BitVec 32) (hk : Onto w0 w) (hb : BytesAt w0 A b) (hl : b.length ≤ 1000000) (hn : n = b.length) :
    Calls Try.prog 13 #[uv s, .slice A n c] w fun e w' => e = .returned (uv (~~~(addB (~~~s) b))) ∧ Onto w0 w' := by
  subst hn
  refine (add_does s A c b w (hb.keep hk) hl).mono ?_
  rintro e w' ⟨rfl, h⟩
  exact ⟨rfl, Keep.trans hk h (fun _ _ h => h)⟩
theorem bytes_in {w0 w : World} (s : BitVec 32) (hk : Onto w0 w) : Calls Try.prog 17 #[uv s] w fun e w' => e = .returned (.agg (fourA s)) ∧ Onto w0 w' := by
  refine (bytes_does s w).mono ?_
  rintro e w' ⟨rfl, h⟩
  exact ⟨rfl, Keep.trans hk h (fun _ _ h => h)⟩
theorem shift_at {w0 w : World} (s : BitVec 32) {n : Nat} (hn : n ≤ 1048576) (hk : Onto w0 w) : Calls Try.prog 15 #[uv s, .int .i64 n] w fun e w' => e = .returned (uv (mx (8 * n) s)) ∧ Onto w0 w' := by
  refine (shift_in s n hn w).mono ?_
  rintro e w' ⟨rfl, rfl⟩
  exact ⟨rfl, hk⟩
theorem join_at {w0 w : World} (a b : BitVec 32) {n : Nat} (hn : n ≤ 1048576) (hk : Onto w0 w) : Calls Try.prog 14 #[uv a, uv b, .int .i64 n] w fun e w' => e = .returned (uv (mx (8 * n) a ^^^ b)) ∧ Onto w0 w' := by
  refine (join_in a b n hn w).mono ?_
  rintro e w' ⟨rfl, rfl⟩
  exact ⟨rfl, hk⟩
theorem bytes_list (w : World) (g o : Nat) (b : List Nat) (h : ∀ i, i < b.length → w.cell? ⟨g, o + i, none⟩ = some (bv (b.getD i 0))) (h2 : ∀ x ∈ b, x < 256) : BytesAt w (some ⟨g, o, none⟩) b := by
  refine ⟨?_, h2⟩
  intro i u hu
  rw [List.getElem?_map] at hu
  cases hx : b[i]? with
  | none => rw [hx] at hu; cases hu
  | some x =>
    rw [hx] at hu
    injection hu with hu
    subst hu
    have hi : i < b.length := (List.getElem?_eq_some_iff.1 hx).1
    refine ⟨g, o, rfl, ?_⟩
    rw [h i hi, List.getD_eq_getElem?_getD, hx]
    rfl
theorem bytes_nil (w : World) : BytesAt w none [] := ⟨fun i u h => by simp at h, fun x h => by simp at h⟩
theorem info_byte : (Try.prog.info? 5).map (fun i => (i.zero, i.size, i.bytes)) = some (some (.int .u8 0), 1, 1) := by kernel_rfl
theorem info_bool : (Try.prog.info? 4).map (fun i => (i.zero, i.size, i.bytes)) = some (some (.bool false), 1, 1) := by kernel_rfl
theorem info_parts {t : TypeId} {z : Value} {s n : Nat} (h : (Try.prog.info? t).map (fun i => (i.zero, i.size, i.bytes)) = some (some z, s, n)) : ∃ i, Try.prog.info? t = some i ∧ i.zero = some z ∧ i.size = s ∧ i.bytes = n := by
  cases hi : Try.prog.info? t with
  | none => simp [hi] at h
  | some i =>
    simp [hi] at h
    exact ⟨i, rfl, h.1, h.2.1, h.2.2⟩
theorem bytes_oneCell (b : List Nat) : ∀ u ∈ b.map bv, u.oneCell' = true := by
  intro u hu
  obtain ⟨x, _, rfl⟩ := List.mem_map.1 hu
  rfl
theorem wpList_append_want {P : Program} (w : World) {ops : Array Oper} {rest : List Oper} {o : Oper} {a : Act} {Q : Exit → Act → World → Prop} (hgd : Region.wanted o (yielded ops a.tmps) = true) (s x : Operand) (t : TypeId)
    (ho : o.op = .call { callee := .builtin .append, args := #[s, x], argTypes := #[t, t] })
    (base : Nat) (e : TypeId) (i : TypeInfo) (z : Value) (bytes : Nat) (ht : P.underlying t = some (.slice e)) (hi : P.info? e = some i) (hz : i.zero = some z)
    (hsize : i.size = 1) (hby : i.bytes = bytes) (hzs : z.cells.size = 1)
    (A : Option Addr) (n c : Nat) (xs : List Value) (hs : a.eval s = .slice A n c) (hown : Fresh w base e A n c xs)
    (A2 : Option Addr) (m c2 : Nat) (news : List Value) (hx : a.eval x = .slice A2 m c2) (hl : news.length = m) (hr : ReadsAs w A2 news) (hnil : A2 = none → m = 0 ∧ c2 = 0) (h1 : ∀ u ∈ news, u.oneCell' = true)
    (h63 : n + m ≤ 1000000) (hbytes : (n + m) * bytes ≤ 140737488355328) (hbase : base ≤ w.heap.size)
    (h : ∀ A' c' w', Fresh w' base e A' (n + m) c' (xs ++ news) → Keep (fun k => ∃ o, A = some ⟨k, o, none⟩) w w' → wpList P ops Q rest (a.put o.dst (.slice A' (n + m) c')) w') : wpList P ops Q (o :: rest) a w :=
  wpList_want hgd fun _ hK => wp_append_onto w s x t ho base e i z bytes ht hi hz hsize hby hzs A n c xs hs hown A2 m c2 news hx hl hr hnil h1 h63 hbytes hbase fun A' c' w' h2 h3 => hK _ _ (h A' c' w' h2 h3)
def nine : List Nat := [49, 50, 51, 52, 53, 54, 55, 56, 57]
def four : List Nat := [49, 50, 51, 52]
def five : List Nat := [53, 54, 55, 56, 57]
theorem of_nine : ofB nine = 0xcbf43926#32 := by kernel_rfl
theorem of_four : ofB four = 0x9be3e0a3#32 := by kernel_rfl
theorem of_five : ofB five = 0x131da070#32 := by kernel_rfl
theorem of_nil : ofB [] = 0#32 := by kernel_rfl
theorem add_five : ~~~(addB (~~~0x9be3e0a3#32) five) = 0xcbf43926#32 := by kernel_rfl
theorem join_five : mx (8 * 5) 0x9be3e0a3#32 ^^^ 0x131da070#32 = 0xcbf43926#32 := by kernel_rfl
theorem four_nine : fourA 0xcbf43926#32 = #[.int .u8 38, .int .u8 57, .int .u8 244, .int .u8 203] := by kernel_rfl
theorem read_const : BitVec.ofNat 32 (le ([38, 57, 244, 203, 1].take 4)) = 0xcbf43926#32 := by kernel_rfl
def w0A : Array Value := #[bv 49, bv 50, bv 51, bv 52, bv 53, bv 54, bv 55, bv 56, bv 57]
def w1A : Array Value := #[bv 38, bv 57, bv 244, bv 203, bv 1]
def aliveW (w : World) : World := (w.alloc (.cells w0A 5 (9, 10))).alloc (.cells w1A 5)
theorem aliveW_nine (w : World) (j : Nat) : (aliveW w).cell? ⟨w.heap.size, j, none⟩ = w0A[j]? := by
  have h : (aliveW w).heap[w.heap.size]? = some (.cells w0A 5 (9, 10)) := by
    have h1 := heap_alloc_new w (.cells w0A 5 (9, 10))
    exact (Below.heap_alloc _ _ _ (by simp)).trans h1
  exact cell_of_row _ _ _ _ _ _ h
theorem aliveW_lit (w : World) : BytesAt (aliveW w) (some ⟨w.heap.size + 1, 0, none⟩) [38, 57, 244, 203, 1] := by
  have hb : Blk (aliveW w) (w.heap.size + 1) 5 w1A := by
    have := Blk.new (w.alloc (.cells w0A 5 (9, 10))) 5 w1A
    rw [World.size_alloc] at this
    exact this
  refine bytes_list _ _ _ _ (fun i hi => ?_) (by decide)
  rw [Nat.zero_add, hb.cell]
  match i, hi with
  | 0, _ => rfl
  | 1, _ => rfl
  | 2, _ => rfl
  | 3, _ => rfl
  | 4, _ => rfl
theorem aliveW_b9 (w : World) : BytesAt (aliveW w) (some ⟨w.heap.size, 0, none⟩) nine := by
  refine bytes_list _ _ _ _ (fun i hi => ?_) (by decide)
  rw [Nat.zero_add, aliveW_nine]
  match i, hi with
  | 0, _ => rfl
  | 1, _ => rfl
  | 2, _ => rfl
  | 3, _ => rfl
  | 4, _ => rfl
  | 5, _ => rfl
  | 6, _ => rfl
  | 7, _ => rfl
  | 8, _ => rfl
theorem aliveW_b4 (w : World) : BytesAt (aliveW w) (some ⟨w.heap.size, 0, none⟩) four := by
  refine bytes_list _ _ _ _ (fun i hi => ?_) (by decide)
  rw [Nat.zero_add, aliveW_nine]
  match i, hi with
  | 0, _ => rfl
  | 1, _ => rfl
  | 2, _ => rfl
  | 3, _ => rfl
theorem aliveW_b5 (w : World) : BytesAt (aliveW w) (some ⟨w.heap.size, 4, none⟩) five := by
  refine bytes_list _ _ _ _ (fun i hi => ?_) (by decide)
  rw [aliveW_nine]
  match i, hi with
  | 0, _ => rfl
  | 1, _ => rfl
  | 2, _ => rfl
  | 3, _ => rfl
  | 4, _ => rfl
theorem aliveW_keep (w : World) : Keep (fun _ => False) w (aliveW w) := ((Keep.refl _ w).alloc _).alloc _
theorem keyLits5 (a : Int) (h : 0 ≤ a ∧ a < 256) : Try.prog.keyLits 1 5 [.int .u8 a] = some [.int .u8 a] := by
  have hw : (Lit.int .u8 a).wf = true := by
    simp [Lit.wf, IntKind.min, IntKind.max, IntKind.bits, IntKind.signed]
    omega
  unfold Program.keyLits
  rw [Try.underlying5]
  simp [hw]
theorem keyLits38 (a b c d : Int) (ha : 0 ≤ a ∧ a < 256) (hb : 0 ≤ b ∧ b < 256) (hc : 0 ≤ c ∧ c < 256) (hd : 0 ≤ d ∧ d < 256) :
    Try.prog.keyLits 2 38 [.int .u8 a, .int .u8 b, .int .u8 c, .int .u8 d] = some [.int .u8 a, .int .u8 b, .int .u8 c, .int .u8 d] := by
  have h5 : Try.prog.cellsOf 5 = 1 := by kernel_rfl
  have h38 : Try.prog.cellsOf 38 = 4 := by kernel_rfl
  unfold Program.keyLits
  rw [show Try.prog.underlying 38 = some (.array 4 5) from rfl]
  simp only [h5, h38, List.length_cons, List.length_nil, if_true]
  rw [show List.range 4 = [0, 1, 2, 3] from rfl]
  simp [keyLits5 _ ha, keyLits5 _ hb, keyLits5 _ hc, keyLits5 _ hd]
theorem eq38 (a b c d : Int) (ha : 0 ≤ a ∧ a < 256) (hb : 0 ≤ b ∧ b < 256) (hc : 0 ≤ c ∧ c < 256) (hd : 0 ≤ d ∧ d < 256) (w : World) : (Op.equalIn 10000 38 (.agg #[.int .u8 a, .int .u8 b, .int .u8 c, .int .u8 d]) (.agg #[.int .u8 a, .int .u8 b, .int .u8 c, .int .u8 d])).run Try.prog w = .ok true w := by
  obtain ⟨r, h1, h2⟩ := run_equalIn_deep (P := Try.prog) 9998 2 38 (by kernel_rfl) w 2 2 (.agg #[.int .u8 a, .int .u8 b, .int .u8 c, .int .u8 d]) (.agg #[.int .u8 a, .int .u8 b, .int .u8 c, .int .u8 d]) [.int .u8 a, .int .u8 b, .int .u8 c, .int .u8 d] [.int .u8 a, .int .u8 b, .int .u8 c, .int .u8 d] (by kernel_rfl) (by kernel_rfl) (keyLits38 a b c d ha hb hc hd) (keyLits38 a b c d ha hb hc hd)
  rw [h2.2 rfl] at h1
  exact h1
section
variable {w0 w : World} (hk : Onto w0 w)
include hk
theorem c_nine {A : Option Addr} {c : Nat} (hb : BytesAt w0 A nine) : Calls Try.prog 11 #[.slice A 9 c] w fun e w' => e = .returned (.int .u32 3421780262) ∧ Onto w0 w' := by
  have := of_in (c := c) (n := 9) hk hb (by decide) rfl
  rwa [of_nine] at this
theorem c_four {A : Option Addr} {c : Nat} (hb : BytesAt w0 A four) : Calls Try.prog 11 #[.slice A 4 c] w fun e w' => e = .returned (.int .u32 0x9be3e0a3) ∧ Onto w0 w' := by
  have := of_in (c := c) (n := 4) hk hb (by decide) rfl
  rwa [of_four] at this
theorem c_five {A : Option Addr} {c : Nat} (hb : BytesAt w0 A five) : Calls Try.prog 11 #[.slice A 5 c] w fun e w' => e = .returned (.int .u32 0x131da070) ∧ Onto w0 w' := by
  have := of_in (c := c) (n := 5) hk hb (by decide) rfl
  rwa [of_five] at this
theorem c_nil {c : Nat} : Calls Try.prog 11 #[.slice none 0 c] w fun e w' => e = .returned (.int .u32 0) ∧ Onto w0 w' := by
  have := of_in (c := c) (n := 0) hk (bytes_nil w0) (by decide) rfl
  rwa [of_nil] at this
theorem c_add {A : Option Addr} {c : Nat} (hb : BytesAt w0 A five) : Calls Try.prog 13 #[.int .u32 0x9be3e0a3, .slice A 5 c] w fun e w' => e = .returned (.int .u32 3421780262) ∧ Onto w0 w' := by
  have := add_in (c := c) (n := 5) 0x9be3e0a3#32 hk hb (by decide) rfl
  rwa [add_five] at this
theorem c_bytes : Calls Try.prog 17 #[.int .u32 3421780262] w fun e w' => e = .returned (.agg #[.int .u8 38, .int .u8 57, .int .u8 244, .int .u8 203]) ∧ Onto w0 w' := by
  have := bytes_in 0xcbf43926#32 hk
  rwa [four_nine] at this
theorem c_join : Calls Try.prog 14 #[.int .u32 0x9be3e0a3, .int .u32 0x131da070, .int .i64 5] w fun e w' => e = .returned (.int .u32 3421780262) ∧ Onto w0 w' := by
  have := join_at 0x9be3e0a3#32 0x131da070#32 (n := 5) (by decide) hk
  rwa [join_five] at this
theorem c_shift : Calls Try.prog 15 #[.int .u32 1, .int .i64 0] w fun e w' => e = .returned (.int .u32 1) ∧ Onto w0 w' :=
  shift_at 1#32 (n := 0) (by decide) hk
end
/-- A world behind W: what a region of calls that make memory may leave. -/
structure Later (W : World) where
  w : World
  on : Onto W w
instance (W : World) : Nonempty (Later W) := ⟨⟨W, Keep.refl _ W⟩⟩
theorem Calls.later {P : Program} {f : FuncId} {args : Array Value} {W w : World} {v : Value} (h : Calls P f args w fun e w' => e = .returned v ∧ Onto W w') :
    Calls P f args w fun e w' => e = .returned v ∧ ∃ d : Later W, w' = d.w :=
  h.mono fun _ _ ⟨he, hk⟩ => ⟨he, ⟨_, hk⟩, rfl⟩
theorem wp_region_later {P : Program} {id : Nat} {Q : Exit → Act → World → Prop} {a : Act} {w : World} {l : List Oper} (hm : P.follows .mixedOrders = true) (hB : Region.lexB .any l.toArray = true)
    (h : wpQuiet P l.toArray (fun w' => ∃ d : Later w, w' = d.w) (fun a' => ∀ w', Onto w w' → Q .normal a' w') l a) : (Code.region id l.toArray true).wp P Q a w := by
  refine wp_region_quiet (C := fun w' => ∃ d : Later w, w' = d.w) hm hB ⟨⟨w.drew, Keep.drew (Keep.refl _ w)⟩, rfl⟩ ?_
  have e : (fun a' => ∀ w', Onto w w' → Q .normal a' w') = (fun a' => ∀ w', (∃ d : Later w, w' = d.w) → Q .normal a' w') := by
    funext a'
    exact propext ⟨fun H w' ⟨d, hd⟩ => by subst hd; exact H _ d.on, fun H w' hk => H w' ⟨⟨w', hk⟩, rfl⟩⟩
  rw [e] at h
  simpa using h
theorem Onto.drew {w0 w : World} (h : Onto w0 w) : Onto w0 w.drew := Keep.drew h
end Go.Proofs.Ytibjllfabalfjaa
