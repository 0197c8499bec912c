/- SHA-256: the two spellings of its functions: plain. -/
import Derived.Test.YtplcjgpmainbnaaDoorSha
set_option linter.unusedVariables false
set_option linter.unusedSimpArgs false
namespace Go.Proofs.YtplcjgpmainbnaaDoor.Sha
theorem ch_eq (e f g : W32) : g ^^^ e &&& (f ^^^ g) = (e &&& f) ^^^ (~~~e &&& g) := by
  apply BitVec.eq_of_getLsbD_eq
  intro i hi
  simp only [BitVec.getLsbD_xor, BitVec.getLsbD_and, BitVec.getLsbD_not, hi, decide_true, Bool.true_and]
  cases e.getLsbD i <;> cases f.getLsbD i <;> cases g.getLsbD i <;> rfl
theorem maj_eq (a b c : W32) : a &&& b ||| c &&& (a ||| b) = (a &&& b) ^^^ (a &&& c) ^^^ (b &&& c) := by
  apply BitVec.eq_of_getLsbD_eq
  intro i hi
  simp only [BitVec.getLsbD_xor, BitVec.getLsbD_and, BitVec.getLsbD_or]
  cases a.getLsbD i <;> cases b.getLsbD i <;> cases c.getLsbD i <;> rfl
theorem rot_add (x : W32) (k : Nat) (h0 : 0 < k) (h1 : k < 32) : rot x k = x >>> k + x <<< (32 - k) := by
  unfold rot
  rw [BitVec.add_eq_or_of_and_eq_zero]
  apply BitVec.eq_of_getLsbD_eq
  intro i hi
  simp only [BitVec.getLsbD_and, BitVec.getLsbD_ushiftRight, BitVec.getLsbD_shiftLeft, BitVec.getLsbD_zero]
  by_cases h : i < 32 - k
  · simp [h]
  · rw [BitVec.getLsbD_of_ge x (k + i) (by omega)]; simp
/-- The value of a word, turned. -/
theorem rot_toNat (x : W32) (k : Nat) (h0 : 0 < k) (h1 : k < 32) : (rot x k).toNat = (x.toNat / 2 ^ k + x.toNat * 2 ^ (32 - k)) % 4294967296 := by
  rw [rot_add x k h0 h1, BitVec.toNat_add, BitVec.toNat_ushiftRight, BitVec.toNat_shiftLeft, Nat.shiftRight_eq_div_pow, Nat.shiftLeft_eq]
  simp
end Go.Proofs.YtplcjgpmainbnaaDoor.Sha
