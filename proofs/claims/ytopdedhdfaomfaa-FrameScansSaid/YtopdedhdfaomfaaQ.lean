/- The u32 forms of the program as bit vectors. -/
import Derived.Test.YtopdedhdfaomfaaP
import Derived.Laws.BitsAllLaws
namespace Go.Proofs.Ytopdedhdfaomfaa
/-- A sum as a value of the program. -/
def iv (b : BitVec 32) : Int := (b.toNat : Int)
abbrev uv (b : BitVec 32) : Value := .int .u32 (iv b)
theorem iv_lt (b : BitVec 32) : iv b < 4294967296 := by have := b.isLt; simp only [iv]; omega
theorem iv_xor (a b : BitVec 32) : bits .xor .u32 (iv a) (iv b) = iv (a ^^^ b) := by
  unfold iv; rw [u32_xor_nat _ _ a.isLt b.isLt, BitVec.toNat_xor]
theorem iv_or (a b : BitVec 32) : bits .or .u32 (iv a) (iv b) = iv (a ||| b) := by
  unfold iv; rw [u32_or_nat _ _ a.isLt b.isLt, BitVec.toNat_or]
theorem iv_and (a b : BitVec 32) : bits .and .u32 (iv a) (iv b) = iv (a &&& b) := by
  unfold iv; rw [u32_and_nat _ _ a.isLt b.isLt, BitVec.toNat_and]
theorem iv_shr (a : BitVec 32) : iv a / (2 : Int) = iv (a >>> 1) := by
  simp [iv, Nat.shiftRight_eq_div_pow]
theorem iv_shr8 (a : BitVec 32) : iv a / (256 : Int) = iv (a >>> 8) := by
  simp [iv, Nat.shiftRight_eq_div_pow]
theorem iv_shl (a : BitVec 32) : iv a * (2 : Int) % (4294967296 : Int) = iv (a <<< 1) := by
  simp [iv, Nat.shiftLeft_eq]
theorem iv_inj {a b : BitVec 32} : iv a = iv b ↔ a = b := by
  constructor
  · intro h
    apply BitVec.eq_of_toNat_eq
    exact Int.ofNat.inj h
  · rintro rfl; rfl
theorem iv_neg (a : BitVec 32) : -iv a % 4294967296 = iv (-a) := by
  simp [iv, BitVec.toNat_neg]
  have := a.isLt
  omega
theorem iv_poly : (3988292384 : Int) = iv poly := rfl
theorem iv_top : (2147483648 : Int) = iv one := rfl
theorem iv_one : (1 : Int) = iv 1#32 := rfl
theorem iv_mulx (b : BitVec 32) : bits .xor .u32 (iv b / 2) (bits .and .u32 3988292384 (-bits .and .u32 (iv b) 1 % 4294967296)) = iv (mulx b) := by
  rw [iv_poly, iv_one, iv_and, iv_neg, iv_and, iv_shr, iv_xor]
  congr 1
  unfold mulx
  congr 1
  have h : b &&& 1#32 = sel (b.getLsbD 0) 1#32 := by
    apply BitVec.eq_of_getLsbD_eq
    intro i hi
    rw [BitVec.getLsbD_and]
    match i with
    | 0 => cases b.getLsbD 0 <;> rfl
    | i + 1 =>
      have : (1#32).getLsbD (i + 1) = false := by simp
      rw [this]
      cases b.getLsbD 0 <;> simp [sel]
  rw [h]
  cases b.getLsbD 0 <;> decide
theorem iv_test (v : BitVec 32) : (bits .and .u32 (iv v) 2147483648 != 0) = v.getLsbD 31 := by
  rw [iv_top, iv_and]
  have h : v &&& one = sel (v.getLsbD 31) one := by
    apply BitVec.eq_of_getLsbD_eq
    intro i hi
    rw [BitVec.getLsbD_and]
    rcases Nat.lt_or_ge i 31 with h | h
    · have : one.getLsbD i = false := by
        have : ∀ j : Fin 31, one.getLsbD j = false := by decide
        exact this ⟨i, h⟩
      rw [this]
      cases v.getLsbD 31 <;> simp [sel, this]
    · have : i = 31 := by omega
      subst this
      cases v.getLsbD 31 <;> rfl
  rw [h]
  cases v.getLsbD 31 <;> rfl
theorem iv_not (b : BitVec 32) : 4294967295 - iv b = iv (~~~b) := by
  have := b.isLt
  simp only [iv, BitVec.toNat_not]
  omega
end Go.Proofs.Ytopdedhdfaomfaa
