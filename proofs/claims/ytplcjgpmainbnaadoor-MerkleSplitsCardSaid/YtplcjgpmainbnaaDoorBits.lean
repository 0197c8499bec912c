/- Words of 32 bits in a walk: a word's number is kept under a name of its own, so that no rule opens it. -/
import Derived.Test.YtplcjgpmainbnaaDoorSha4
import Derived.WalkKit
set_option linter.unusedVariables false
set_option linter.unusedSimpArgs false
namespace Go.Proofs.YtplcjgpmainbnaaDoor.Bits
open Go.Proofs.YtplcjgpmainbnaaDoor.Sha
/-- The number of a word. -/
def num (v : W32) : Int := (v.toNat : Int)
theorem num_nonneg (v : W32) : 0 ≤ num v := Int.natCast_nonneg _
theorem num_lt (v : W32) : num v < 4294967296 := by unfold num; have := v.isLt; omega
theorem wrap_num (v : W32) : IntKind.u32.wrap (num v) = num v := by
  have := v.isLt
  unfold num
  simp only [IntKind.wrap, IntKind.signed, IntKind.bits]
  simp
  omega
theorem wrap_add (a b : W32) : IntKind.u32.wrap (num a + num b) = num (a + b) := by
  unfold num
  rw [BitVec.toNat_add]
  simp only [IntKind.wrap, IntKind.signed, IntKind.bits]
  simp
theorem wrap_shl (a : W32) (n : Nat) : IntKind.u32.wrap (num a * 2 ^ n) = num (a <<< n) := by
  unfold num
  rw [BitVec.toNat_shiftLeft, Nat.shiftLeft_eq]
  simp only [IntKind.wrap, IntKind.signed, IntKind.bits]
  simp
theorem div_shr (a : W32) (n : Nat) : num a / 2 ^ n = num (a >>> n) := by
  unfold num
  rw [BitVec.toNat_ushiftRight, Nat.shiftRight_eq_div_pow, show (2 : Int) ^ n = ((2 ^ n : Nat) : Int) by simp]
  rfl
theorem fdiv_shr (a : W32) (n : Nat) : (num a).fdiv (2 ^ n) = num (a >>> n) := by
  rw [← div_shr, Int.fdiv_eq_ediv_of_nonneg _ (by rw [show (2 : Int) ^ n = ((2 ^ n : Nat) : Int) by simp]; exact Int.natCast_nonneg _)]
theorem ofInt_num (a : W32) : BitVec.ofInt 32 (num a) = a := by unfold num; simp
theorem bits_xor (a b : W32) : bits .xor .u32 (num a) (num b) = num (a ^^^ b) := by
  unfold bits
  show IntKind.u32.wrap ((BitVec.ofInt 32 (num a) ^^^ BitVec.ofInt 32 (num b)).toNat : Int) = _
  rw [ofInt_num, ofInt_num]
  exact wrap_num _
theorem bits_and (a b : W32) : bits .and .u32 (num a) (num b) = num (a &&& b) := by
  unfold bits
  show IntKind.u32.wrap ((BitVec.ofInt 32 (num a) &&& BitVec.ofInt 32 (num b)).toNat : Int) = _
  rw [ofInt_num, ofInt_num]
  exact wrap_num _
theorem bits_or (a b : W32) : bits .or .u32 (num a) (num b) = num (a ||| b) := by
  unfold bits
  show IntKind.u32.wrap ((BitVec.ofInt 32 (num a) ||| BitVec.ofInt 32 (num b)).toNat : Int) = _
  rw [ofInt_num, ofInt_num]
  exact wrap_num _
/-- A byte as a word. -/
theorem num_byte (n : Nat) (h : n < 256) : num (BitVec.ofNat 32 n) = (n : Int) := by
  unfold num
  rw [BitVec.toNat_ofNat, Nat.mod_eq_of_lt (by omega)]
/-- The value of a word. -/
def w32 (v : W32) : Value := .int .u32 (num v)
end Go.Proofs.YtplcjgpmainbnaaDoor.Bits
