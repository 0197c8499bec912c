/- SHA-256: the reference's whole numbers: plain. -/
import Derived.Test.YtplcjgpmainbnaaDoorSha3
set_option linter.unusedVariables false
set_option linter.unusedSimpArgs false
namespace Go.Proofs.YtplcjgpmainbnaaDoor.Sha
def turnedN (n k : Nat) : Nat := (n / 2 ^ k + n * 2 ^ (32 - k)) % 4294967296
def three (n a b c : Nat) (down : Bool) : Nat := turnedN n a ^^^ turnedN n b ^^^ (if down then n / 2 ^ c else turnedN n c)
theorem sig0_ref (x : W32) : (sig0 x).toNat = three x.toNat 7 18 3 true := by
  unfold sig0 three
  rw [BitVec.toNat_xor, BitVec.toNat_xor, rot_toNat x 7 (by omega) (by omega), rot_toNat x 18 (by omega) (by omega), BitVec.toNat_ushiftRight, Nat.shiftRight_eq_div_pow]
  rfl
theorem sig1_ref (x : W32) : (sig1 x).toNat = three x.toNat 17 19 10 true := by
  unfold sig1 three
  rw [BitVec.toNat_xor, BitVec.toNat_xor, rot_toNat x 17 (by omega) (by omega), rot_toNat x 19 (by omega) (by omega), BitVec.toNat_ushiftRight, Nat.shiftRight_eq_div_pow]
  rfl
theorem big0_ref (x : W32) : (big0 x).toNat = three x.toNat 2 13 22 false := by
  unfold big0 three
  rw [BitVec.toNat_xor, BitVec.toNat_xor, rot_toNat x 2 (by omega) (by omega), rot_toNat x 13 (by omega) (by omega), rot_toNat x 22 (by omega) (by omega)]
  rfl
theorem big1_ref (x : W32) : (big1 x).toNat = three x.toNat 6 11 25 false := by
  unfold big1 three
  rw [BitVec.toNat_xor, BitVec.toNat_xor, rot_toNat x 6 (by omega) (by omega), rot_toNat x 11 (by omega) (by omega), rot_toNat x 25 (by omega) (by omega)]
  rfl
def chN (e f g : Nat) : Nat := (e &&& f) ^^^ ((4294967295 - e) &&& g)
def majN (a b c : Nat) : Nat := (a &&& b) ^^^ (a &&& c) ^^^ (b &&& c)
theorem ch_ref (e f g : W32) : (g ^^^ e &&& (f ^^^ g)).toNat = chN e.toNat f.toNat g.toNat := by
  rw [ch_eq, BitVec.toNat_xor, BitVec.toNat_and, BitVec.toNat_and, BitVec.toNat_not]
  rfl
theorem maj_ref (a b c : W32) : (a &&& b ||| c &&& (a ||| b)).toNat = majN a.toNat b.toNat c.toNat := by
  rw [maj_eq, BitVec.toNat_xor, BitVec.toNat_xor, BitVec.toNat_and, BitVec.toNat_and, BitVec.toNat_and]
  rfl
/-- The two sums of a step, as whole numbers. -/
def sumP (s : St) (k w : W32) : Nat := s.h.toNat + three s.e.toNat 6 11 25 false + chN s.e.toNat s.f.toNat s.g.toNat + k.toNat + w.toNat
def sumQ (s : St) : Nat := three s.a.toNat 2 13 22 false + majN s.a.toNat s.b.toNat s.c.toNat
theorem step_a (s : St) (k w : W32) : (step s k w).a.toNat = (sumP s k w + sumQ s) % 4294967296 := by
  unfold step sumP sumQ
  simp only [BitVec.toNat_add, big1_ref, big0_ref, ch_ref, maj_ref]
  omega
theorem step_e (s : St) (k w : W32) : (step s k w).e.toNat = (s.d.toNat + sumP s k w) % 4294967296 := by
  unfold step sumP
  simp only [BitVec.toNat_add, big1_ref, ch_ref]
  omega
theorem nextW_ref (b : List Nat) (w : List W32) (t : Nat) (h : ¬ t < 16) : (nextW b w t).toNat = (three (w.getD (t - 2) 0).toNat 17 19 10 true + (w.getD (t - 7) 0).toNat + three (w.getD (t - 15) 0).toNat 7 18 3 true + (w.getD (t - 16) 0).toNat) % 4294967296 := by
  unfold nextW
  rw [if_neg h]
  simp only [BitVec.toNat_add, sig0_ref, sig1_ref]
  omega
theorem or_shift (x y : Nat) (k : Nat) (hy : y < 2 ^ k) : x * 2 ^ k ||| y = x * 2 ^ k + y := by
  rw [Nat.mul_comm, Nat.two_pow_add_eq_or_of_lt hy]
/-- A word of four bytes, as a whole number. -/
theorem word_ref (b : List Nat) (t : Nat) (h0 : b.getD (4 * t) 0 < 256) (h1 : b.getD (4 * t + 1) 0 < 256) (h2 : b.getD (4 * t + 2) 0 < 256) (h3 : b.getD (4 * t + 3) 0 < 256) :
    (word b t).toNat = b.getD (4 * t) 0 * 16777216 + b.getD (4 * t + 1) 0 * 65536 + b.getD (4 * t + 2) 0 * 256 + b.getD (4 * t + 3) 0 := by
  unfold word
  generalize b.getD (4 * t) 0 = x0 at *
  generalize b.getD (4 * t + 1) 0 = x1 at *
  generalize b.getD (4 * t + 2) 0 = x2 at *
  generalize b.getD (4 * t + 3) 0 = x3 at *
  simp only [BitVec.toNat_or, BitVec.toNat_shiftLeft, BitVec.toNat_ofNat, Nat.shiftLeft_eq]
  rw [Nat.mod_eq_of_lt (show x0 < 2 ^ 32 by omega), Nat.mod_eq_of_lt (show x1 < 2 ^ 32 by omega), Nat.mod_eq_of_lt (show x2 < 2 ^ 32 by omega), Nat.mod_eq_of_lt (show x3 < 2 ^ 32 by omega)]
  rw [Nat.mod_eq_of_lt (show x0 * 2 ^ 24 < 2 ^ 32 by omega), Nat.mod_eq_of_lt (show x1 * 2 ^ 16 < 2 ^ 32 by omega), Nat.mod_eq_of_lt (show x2 * 2 ^ 8 < 2 ^ 32 by omega)]
  have e1 : x0 * 2 ^ 24 ||| x1 * 2 ^ 16 = x0 * 2 ^ 24 + x1 * 2 ^ 16 := or_shift x0 (x1 * 2 ^ 16) 24 (by omega)
  rw [e1]
  have e2 : x0 * 2 ^ 24 + x1 * 2 ^ 16 ||| x2 * 2 ^ 8 = x0 * 2 ^ 24 + x1 * 2 ^ 16 + x2 * 2 ^ 8 := by
    have := or_shift (x0 * 2 ^ 8 + x1) (x2 * 2 ^ 8) 16 (by omega)
    rw [show x0 * 2 ^ 24 + x1 * 2 ^ 16 = (x0 * 2 ^ 8 + x1) * 2 ^ 16 by omega]
    exact this
  rw [e2]
  have e3 : x0 * 2 ^ 24 + x1 * 2 ^ 16 + x2 * 2 ^ 8 ||| x3 = x0 * 2 ^ 24 + x1 * 2 ^ 16 + x2 * 2 ^ 8 + x3 := by
    have := or_shift (x0 * 2 ^ 16 + x1 * 2 ^ 8 + x2) x3 8 (by omega)
    rw [show x0 * 2 ^ 24 + x1 * 2 ^ 16 + x2 * 2 ^ 8 = (x0 * 2 ^ 16 + x1 * 2 ^ 8 + x2) * 2 ^ 8 by omega]
    exact this
  rw [e3]
end Go.Proofs.YtplcjgpmainbnaaDoor.Sha
