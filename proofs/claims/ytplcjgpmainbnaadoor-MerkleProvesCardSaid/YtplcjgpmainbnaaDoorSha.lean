/- SHA-256 on words of 32 bits: plain. · SHA-256: the two spellings of its functions: plain. · SHA-256: piece by piece, and all at once: plain. · SHA-256: the reference's whole numbers: plain. · Words of 32 bits in a walk: a word's number is kept under a name of its own, so that no rule opens it. -/
import Derived.KernelRfl
import Derived.WalkKit
set_option linter.unusedVariables false
set_option linter.unusedSimpArgs false
namespace Go.Proofs.YtplcjgpmainbnaaDoor.Sha
abbrev W32 := BitVec 32
def rot (x : W32) (k : Nat) : W32 := x >>> k ||| x <<< (32 - k)
def sig0 (x : W32) : W32 := rot x 7 ^^^ rot x 18 ^^^ x >>> 3
def sig1 (x : W32) : W32 := rot x 17 ^^^ rot x 19 ^^^ x >>> 10
def big0 (x : W32) : W32 := rot x 2 ^^^ rot x 13 ^^^ rot x 22
def big1 (x : W32) : W32 := rot x 6 ^^^ rot x 11 ^^^ rot x 25
def first : List W32 := [0x6a09e667, 0xbb67ae85, 0x3c6ef372, 0xa54ff53a, 0x510e527f, 0x9b05688c, 0x1f83d9ab, 0x5be0cd19]
def consts : List W32 := [
  0x428a2f98, 0x71374491, 0xb5c0fbcf, 0xe9b5dba5, 0x3956c25b, 0x59f111f1, 0x923f82a4, 0xab1c5ed5,
  0xd807aa98, 0x12835b01, 0x243185be, 0x550c7dc3, 0x72be5d74, 0x80deb1fe, 0x9bdc06a7, 0xc19bf174,
  0xe49b69c1, 0xefbe4786, 0x0fc19dc6, 0x240ca1cc, 0x2de92c6f, 0x4a7484aa, 0x5cb0a9dc, 0x76f988da,
  0x983e5152, 0xa831c66d, 0xb00327c8, 0xbf597fc7, 0xc6e00bf3, 0xd5a79147, 0x06ca6351, 0x14292967,
  0x27b70a85, 0x2e1b2138, 0x4d2c6dfc, 0x53380d13, 0x650a7354, 0x766a0abb, 0x81c2c92e, 0x92722c85,
  0xa2bfe8a1, 0xa81a664b, 0xc24b8b70, 0xc76c51a3, 0xd192e819, 0xd6990624, 0xf40e3585, 0x106aa070,
  0x19a4c116, 0x1e376c08, 0x2748774c, 0x34b0bcb5, 0x391c0cb3, 0x4ed8aa4a, 0x5b9cca4f, 0x682e6ff3,
  0x748f82ee, 0x78a5636f, 0x84c87814, 0x8cc70208, 0x90befffa, 0xa4506ceb, 0xbef9a3f7, 0xc67178f2]
/-- A word of four bytes. -/
def word (b : List Nat) (t : Nat) : W32 :=
  BitVec.ofNat 32 (b.getD (4 * t) 0) <<< 24 ||| BitVec.ofNat 32 (b.getD (4 * t + 1) 0) <<< 16 ||| BitVec.ofNat 32 (b.getD (4 * t + 2) 0) <<< 8 ||| BitVec.ofNat 32 (b.getD (4 * t + 3) 0)
/-- The next word of the row of words. -/
def nextW (b : List Nat) (w : List W32) (t : Nat) : W32 :=
  if t < 16 then word b t else w.getD (t - 16) 0 + w.getD (t - 7) 0 + sig0 (w.getD (t - 15) 0) + sig1 (w.getD (t - 2) 0)
def wordsTo (b : List Nat) : Nat → List W32
  | 0 => []
  | t + 1 => wordsTo b t ++ [nextW b (wordsTo b t) t]
/-- Eight words. -/
structure St where
  a : W32
  b : W32
  c : W32
  d : W32
  e : W32
  f : W32
  g : W32
  h : W32
deriving DecidableEq
def St.list (s : St) : List W32 := [s.a, s.b, s.c, s.d, s.e, s.f, s.g, s.h]
def step (s : St) (k w : W32) : St :=
  let p := s.h + big1 s.e + (s.g ^^^ s.e &&& (s.f ^^^ s.g)) + k + w
  let q := big0 s.a + (s.a &&& s.b ||| s.c &&& (s.a ||| s.b))
  ⟨p + q, s.a, s.b, s.c, s.d + p, s.e, s.f, s.g⟩
def stepsTo (s : St) (w : List W32) : Nat → St
  | 0 => s
  | t + 1 => step (stepsTo s w t) (consts.getD t 0) (w.getD t 0)
def St.add (s t : St) : St := ⟨s.a + t.a, s.b + t.b, s.c + t.c, s.d + t.d, s.e + t.e, s.f + t.f, s.g + t.g, s.h + t.h⟩
def turn (s : St) (b : List Nat) : St := (stepsTo s (wordsTo b 64) 64).add s
def st0 : St := ⟨0x6a09e667, 0xbb67ae85, 0x3c6ef372, 0xa54ff53a, 0x510e527f, 0x9b05688c, 0x1f83d9ab, 0x5be0cd19⟩
theorem st0_list : st0.list = first := rfl
theorem consts_length : consts.length = 64 := rfl
/-- Bytes are taken: all that fill blocks are turned in. -/
def takeAll : Nat → St → List Nat → St × List Nat
  | 0, s, l => (s, l)
  | n + 1, s, l => if l.length < 64 then (s, l) else takeAll n (turn s (l.take 64)) (l.drop 64)
def write (h : St × List Nat) (b : List Nat) : St × List Nat := takeAll ((h.2 ++ b).length / 64) h.1 (h.2 ++ b)
/-- The eight bytes of a number. -/
def eight (n : Nat) : List Nat := (List.range 8).map fun i => n / 2 ^ (56 - 8 * i) % 256
def noughts (r : Nat) : Nat := (119 - r) % 64
def out (s : St) : List Nat := s.list.flatMap fun x : W32 => (List.range 4).map fun k => (x >>> (24 - 8 * k)).toNat % 256
/-- The digest of bytes. -/
def sum (b : List Nat) : List Nat :=
  let h := write (st0, []) b
  out (write (write h (128 :: List.replicate (noughts h.2.length) 0)) (eight (8 * b.length % 2 ^ 64))).1
theorem sum_a : (sum [0, 97]).take 2 = [2, 42] := by decide +kernel
theorem sum_b : (sum [0, 98]).take 2 = [87, 235] := by decide +kernel
end Go.Proofs.YtplcjgpmainbnaaDoor.Sha
set_option linter.unusedVariables false
set_option linter.unusedSimpArgs false
namespace Go.Proofs.YtplcjgpmainbnaaDoor.Sha
theorem ch_eq (e f g : W32) : g ^^^ e &&& (f ^^^ g) = (e &&& f) ^^^ (~~~e &&& g) := by
  apply BitVec.eq_of_getLsbD_eq
  intro i hi
  simp only [BitVec.getLsbD_xor, BitVec.getLsbD_and, BitVec.getLsbD_not, hi, decide_true, Bool.true_and]
  cases e.getLsbD i <;> cases f.getLsbD i <;> cases g.getLsbD i <;> rfl
theorem maj_eq (a b c : W32) : a &&& b ||| c &&& (a ||| b) = (a &&& b) ^^^ (a &&& c) ^^^ (b &&& c) := by
  apply BitVec.eq_of_getLsbD_eq
  intro i hi
  simp only [BitVec.getLsbD_xor, BitVec.getLsbD_and, BitVec.getLsbD_or]
  cases a.getLsbD i <;> cases b.getLsbD i <;> cases c.getLsbD i <;> rfl
theorem rot_add (x : W32) (k : Nat) (h0 : 0 < k) (h1 : k < 32) : rot x k = x >>> k + x <<< (32 - k) := by
  unfold rot
  rw [BitVec.add_eq_or_of_and_eq_zero]
  apply BitVec.eq_of_getLsbD_eq
  intro i hi
  simp only [BitVec.getLsbD_and, BitVec.getLsbD_ushiftRight, BitVec.getLsbD_shiftLeft, BitVec.getLsbD_zero]
  by_cases h : i < 32 - k
  · simp [h]
  · rw [BitVec.getLsbD_of_ge x (k + i) (by omega)]; simp
/-- The value of a word, turned. -/
theorem rot_toNat (x : W32) (k : Nat) (h0 : 0 < k) (h1 : k < 32) : (rot x k).toNat = (x.toNat / 2 ^ k + x.toNat * 2 ^ (32 - k)) % 4294967296 := by
  rw [rot_add x k h0 h1, BitVec.toNat_add, BitVec.toNat_ushiftRight, BitVec.toNat_shiftLeft, Nat.shiftRight_eq_div_pow, Nat.shiftLeft_eq]
  simp
end Go.Proofs.YtplcjgpmainbnaaDoor.Sha
set_option linter.unusedVariables false
set_option linter.unusedSimpArgs false
namespace Go.Proofs.YtplcjgpmainbnaaDoor.Sha
theorem takeAll_more : ∀ (n m : Nat) (s : St) (l : List Nat), l.length / 64 ≤ n → l.length / 64 ≤ m → takeAll n s l = takeAll m s l := by
  intro n
  induction n with
  | zero =>
    intro m s l h1 h2
    have hl : l.length < 64 := by omega
    cases m with
    | zero => rfl
    | succ m => unfold takeAll; rw [if_pos hl]
  | succ n ih =>
    intro m s l h1 h2
    by_cases hl : l.length < 64
    · cases m with
      | zero => unfold takeAll; rw [if_pos hl]
      | succ m => unfold takeAll; rw [if_pos hl, if_pos hl]
    · cases m with
      | zero => omega
      | succ m =>
        unfold takeAll
        rw [if_neg hl, if_neg hl]
        have : (l.drop 64).length = l.length - 64 := by simp
        exact ih m _ _ (by omega) (by omega)
theorem takeAll_append : ∀ (n : Nat) (s : St) (l m : List Nat) (k : Nat), l.length / 64 ≤ n → (l ++ m).length / 64 ≤ k → takeAll k s (l ++ m) = takeAll k (takeAll n s l).1 ((takeAll n s l).2 ++ m) := by
  intro n
  induction n with
  | zero => intro s l m k h1 h2; rfl
  | succ n ih =>
    intro s l m k h1 h2
    by_cases hl : l.length < 64
    · have e : takeAll (n + 1) s l = (s, l) := by rw [takeAll, if_pos hl]
      rw [e]
    · have e : takeAll (n + 1) s l = takeAll n (turn s (l.take 64)) (l.drop 64) := by
        rw [takeAll, if_neg hl]
      rw [e]
      have hll : (l ++ m).length = l.length + m.length := by simp
      cases k with
      | zero => omega
      | succ k =>
        have hd : (l.drop 64).length = l.length - 64 := by simp
        have e2 : takeAll (k + 1) s (l ++ m) = takeAll k (turn s (l.take 64)) (l.drop 64 ++ m) := by
          rw [takeAll, if_neg (by omega), List.take_append_of_le_length (by omega), List.drop_append_of_le_length (by omega)]
        have hdm : (l.drop 64 ++ m).length = l.length - 64 + m.length := by rw [List.length_append, hd]
        rw [e2, takeAll_more k (k + 1) _ _ (by omega) (by omega)]
        exact ih _ _ _ _ (by omega) (by omega)
theorem takeAll_length : ∀ (n : Nat) (s : St) (l : List Nat), l.length / 64 ≤ n → (takeAll n s l).2.length = l.length % 64 := by
  intro n
  induction n with
  | zero => intro s l h; show l.length = _; omega
  | succ n ih =>
    intro s l h
    unfold takeAll
    by_cases hl : l.length < 64
    · rw [if_pos hl]; show l.length = _; omega
    · rw [if_neg hl]
      have hd : (l.drop 64).length = l.length - 64 := by simp
      rw [ih _ _ (by omega), hd]
      omega
theorem write_length (h : St × List Nat) (b : List Nat) : (write h b).2.length = (h.2.length + b.length) % 64 := by
  unfold write
  rw [takeAll_length _ _ _ (Nat.le_refl _), List.length_append]
theorem write_write (h : St × List Nat) (a b : List Nat) : write (write h a) b = write h (a ++ b) := by
  unfold write
  have h1 := takeAll_append ((h.2 ++ a).length / 64) h.1 (h.2 ++ a) b ((h.2 ++ (a ++ b)).length / 64) (Nat.le_refl _) (by simp)
  rw [List.append_assoc] at h1
  rw [h1]
  have h2 := takeAll_length ((h.2 ++ a).length / 64) h.1 (h.2 ++ a) (Nat.le_refl _)
  refine takeAll_more _ _ _ _ (Nat.le_refl _) ?_
  rw [List.length_append, h2]
  simp only [List.length_append]
  omega
/-- Bytes, filled up. -/
def filled (b : List Nat) : List Nat := b ++ (128 :: List.replicate (noughts (b.length % 64)) 0 ++ eight (8 * b.length % 2 ^ 64))
theorem eight_length (n : Nat) : (eight n).length = 8 := by simp [eight]
theorem filled_length (b : List Nat) : (filled b).length % 64 = 0 := by
  unfold filled
  rw [List.length_append, List.length_append, List.length_cons, List.length_replicate, eight_length]
  unfold noughts
  omega
theorem sum_filled (b : List Nat) : sum b = out (takeAll ((filled b).length / 64) st0 (filled b)).1 := by
  unfold sum
  simp only
  rw [write_write, write_write]
  have h1 := write_length (st0, []) b
  rw [h1]
  have e : ([] : List Nat).length + b.length = b.length := by simp
  rw [show ((st0, ([] : List Nat)) : St × List Nat).2.length + b.length = b.length by simp]
  rfl
/-- The state behind k blocks. -/
theorem takeAll_step (k : Nat) (s : St) (l : List Nat) (h : 64 * (k + 1) ≤ l.length) : (takeAll (k + 1) s l).1 = turn (takeAll k s l).1 ((l.drop (64 * k)).take 64) ∧ (takeAll k s l).2 = l.drop (64 * k) := by
  induction k generalizing s l with
  | zero =>
    unfold takeAll
    rw [if_neg (by omega)]
    exact ⟨rfl, rfl⟩
  | succ k ih =>
    have hd : (l.drop 64).length = l.length - 64 := by simp
    obtain ⟨h1, h2⟩ := ih (turn s (l.take 64)) (l.drop 64) (by omega)
    have e1 : takeAll (k + 1 + 1) s l = takeAll (k + 1) (turn s (l.take 64)) (l.drop 64) := by rw [takeAll, if_neg (by omega)]
    have e2 : takeAll (k + 1) s l = takeAll k (turn s (l.take 64)) (l.drop 64) := by rw [takeAll, if_neg (by omega)]
    rw [e1, e2, h1, h2, List.drop_drop, show 64 + 64 * k = 64 * (k + 1) by omega]
    exact ⟨rfl, rfl⟩
end Go.Proofs.YtplcjgpmainbnaaDoor.Sha
set_option linter.unusedVariables false
set_option linter.unusedSimpArgs false
namespace Go.Proofs.YtplcjgpmainbnaaDoor.Sha
def turnedN (n k : Nat) : Nat := (n / 2 ^ k + n * 2 ^ (32 - k)) % 4294967296
def three (n a b c : Nat) (down : Bool) : Nat := turnedN n a ^^^ turnedN n b ^^^ (if down then n / 2 ^ c else turnedN n c)
theorem sig0_ref (x : W32) : (sig0 x).toNat = three x.toNat 7 18 3 true := by
  unfold sig0 three
  rw [BitVec.toNat_xor, BitVec.toNat_xor, rot_toNat x 7 (by omega) (by omega), rot_toNat x 18 (by omega) (by omega), BitVec.toNat_ushiftRight, Nat.shiftRight_eq_div_pow]
  rfl
theorem sig1_ref (x : W32) : (sig1 x).toNat = three x.toNat 17 19 10 true := by
  unfold sig1 three
  rw [BitVec.toNat_xor, BitVec.toNat_xor, rot_toNat x 17 (by omega) (by omega), rot_toNat x 19 (by omega) (by omega), BitVec.toNat_ushiftRight, Nat.shiftRight_eq_div_pow]
  rfl
theorem big0_ref (x : W32) : (big0 x).toNat = three x.toNat 2 13 22 false := by
  unfold big0 three
  rw [BitVec.toNat_xor, BitVec.toNat_xor, rot_toNat x 2 (by omega) (by omega), rot_toNat x 13 (by omega) (by omega), rot_toNat x 22 (by omega) (by omega)]
  rfl
theorem big1_ref (x : W32) : (big1 x).toNat = three x.toNat 6 11 25 false := by
  unfold big1 three
  rw [BitVec.toNat_xor, BitVec.toNat_xor, rot_toNat x 6 (by omega) (by omega), rot_toNat x 11 (by omega) (by omega), rot_toNat x 25 (by omega) (by omega)]
  rfl
def chN (e f g : Nat) : Nat := (e &&& f) ^^^ ((4294967295 - e) &&& g)
def majN (a b c : Nat) : Nat := (a &&& b) ^^^ (a &&& c) ^^^ (b &&& c)
theorem ch_ref (e f g : W32) : (g ^^^ e &&& (f ^^^ g)).toNat = chN e.toNat f.toNat g.toNat := by
  rw [ch_eq, BitVec.toNat_xor, BitVec.toNat_and, BitVec.toNat_and, BitVec.toNat_not]
  rfl
theorem maj_ref (a b c : W32) : (a &&& b ||| c &&& (a ||| b)).toNat = majN a.toNat b.toNat c.toNat := by
  rw [maj_eq, BitVec.toNat_xor, BitVec.toNat_xor, BitVec.toNat_and, BitVec.toNat_and, BitVec.toNat_and]
  rfl
/-- The two sums of a step, as whole numbers. -/
def sumP (s : St) (k w : W32) : Nat := s.h.toNat + three s.e.toNat 6 11 25 false + chN s.e.toNat s.f.toNat s.g.toNat + k.toNat + w.toNat
def sumQ (s : St) : Nat := three s.a.toNat 2 13 22 false + majN s.a.toNat s.b.toNat s.c.toNat
theorem step_a (s : St) (k w : W32) : (step s k w).a.toNat = (sumP s k w + sumQ s) % 4294967296 := by
  unfold step sumP sumQ
  simp only [BitVec.toNat_add, big1_ref, big0_ref, ch_ref, maj_ref]
  omega
theorem step_e (s : St) (k w : W32) : (step s k w).e.toNat = (s.d.toNat + sumP s k w) % 4294967296 := by
  unfold step sumP
  simp only [BitVec.toNat_add, big1_ref, ch_ref]
  omega
theorem nextW_ref (b : List Nat) (w : List W32) (t : Nat) (h : ¬ t < 16) : (nextW b w t).toNat = (three (w.getD (t - 2) 0).toNat 17 19 10 true + (w.getD (t - 7) 0).toNat + three (w.getD (t - 15) 0).toNat 7 18 3 true + (w.getD (t - 16) 0).toNat) % 4294967296 := by
  unfold nextW
  rw [if_neg h]
  simp only [BitVec.toNat_add, sig0_ref, sig1_ref]
  omega
theorem or_shift (x y : Nat) (k : Nat) (hy : y < 2 ^ k) : x * 2 ^ k ||| y = x * 2 ^ k + y := by
  rw [Nat.mul_comm, Nat.two_pow_add_eq_or_of_lt hy]
/-- A word of four bytes, as a whole number. -/
theorem word_ref (b : List Nat) (t : Nat) (h0 : b.getD (4 * t) 0 < 256) (h1 : b.getD (4 * t + 1) 0 < 256) (h2 : b.getD (4 * t + 2) 0 < 256) (h3 : b.getD (4 * t + 3) 0 < 256) :
    (word b t).toNat = b.getD (4 * t) 0 * 16777216 + b.getD (4 * t + 1) 0 * 65536 + b.getD (4 * t + 2) 0 * 256 + b.getD (4 * t + 3) 0 := by
  unfold word
  generalize b.getD (4 * t) 0 = x0 at *
  generalize b.getD (4 * t + 1) 0 = x1 at *
  generalize b.getD (4 * t + 2) 0 = x2 at *
  generalize b.getD (4 * t + 3) 0 = x3 at *
  simp only [BitVec.toNat_or, BitVec.toNat_shiftLeft, BitVec.toNat_ofNat, Nat.shiftLeft_eq]
  rw [Nat.mod_eq_of_lt (show x0 < 2 ^ 32 by omega), Nat.mod_eq_of_lt (show x1 < 2 ^ 32 by omega), Nat.mod_eq_of_lt (show x2 < 2 ^ 32 by omega), Nat.mod_eq_of_lt (show x3 < 2 ^ 32 by omega)]
  rw [Nat.mod_eq_of_lt (show x0 * 2 ^ 24 < 2 ^ 32 by omega), Nat.mod_eq_of_lt (show x1 * 2 ^ 16 < 2 ^ 32 by omega), Nat.mod_eq_of_lt (show x2 * 2 ^ 8 < 2 ^ 32 by omega)]
  have e1 : x0 * 2 ^ 24 ||| x1 * 2 ^ 16 = x0 * 2 ^ 24 + x1 * 2 ^ 16 := or_shift x0 (x1 * 2 ^ 16) 24 (by omega)
  rw [e1]
  have e2 : x0 * 2 ^ 24 + x1 * 2 ^ 16 ||| x2 * 2 ^ 8 = x0 * 2 ^ 24 + x1 * 2 ^ 16 + x2 * 2 ^ 8 := by
    have := or_shift (x0 * 2 ^ 8 + x1) (x2 * 2 ^ 8) 16 (by omega)
    rw [show x0 * 2 ^ 24 + x1 * 2 ^ 16 = (x0 * 2 ^ 8 + x1) * 2 ^ 16 by omega]
    exact this
  rw [e2]
  have e3 : x0 * 2 ^ 24 + x1 * 2 ^ 16 + x2 * 2 ^ 8 ||| x3 = x0 * 2 ^ 24 + x1 * 2 ^ 16 + x2 * 2 ^ 8 + x3 := by
    have := or_shift (x0 * 2 ^ 16 + x1 * 2 ^ 8 + x2) x3 8 (by omega)
    rw [show x0 * 2 ^ 24 + x1 * 2 ^ 16 + x2 * 2 ^ 8 = (x0 * 2 ^ 16 + x1 * 2 ^ 8 + x2) * 2 ^ 8 by omega]
    exact this
  rw [e3]
end Go.Proofs.YtplcjgpmainbnaaDoor.Sha
set_option linter.unusedVariables false
set_option linter.unusedSimpArgs false
namespace Go.Proofs.YtplcjgpmainbnaaDoor.Bits
open Go.Proofs.YtplcjgpmainbnaaDoor.Sha
/-- The number of a word. -/
def num (v : W32) : Int := (v.toNat : Int)
theorem num_nonneg (v : W32) : 0 ≤ num v := Int.natCast_nonneg _
theorem num_lt (v : W32) : num v < 4294967296 := by unfold num; have := v.isLt; omega
theorem wrap_num (v : W32) : IntKind.u32.wrap (num v) = num v := by
  have := v.isLt
  unfold num
  simp only [IntKind.wrap, IntKind.signed, IntKind.bits]
  simp
  omega
theorem wrap_add (a b : W32) : IntKind.u32.wrap (num a + num b) = num (a + b) := by
  unfold num
  rw [BitVec.toNat_add]
  simp only [IntKind.wrap, IntKind.signed, IntKind.bits]
  simp
theorem wrap_shl (a : W32) (n : Nat) : IntKind.u32.wrap (num a * 2 ^ n) = num (a <<< n) := by
  unfold num
  rw [BitVec.toNat_shiftLeft, Nat.shiftLeft_eq]
  simp only [IntKind.wrap, IntKind.signed, IntKind.bits]
  simp
theorem div_shr (a : W32) (n : Nat) : num a / 2 ^ n = num (a >>> n) := by
  unfold num
  rw [BitVec.toNat_ushiftRight, Nat.shiftRight_eq_div_pow, show (2 : Int) ^ n = ((2 ^ n : Nat) : Int) by simp]
  rfl
theorem fdiv_shr (a : W32) (n : Nat) : (num a).fdiv (2 ^ n) = num (a >>> n) := by
  rw [← div_shr, Int.fdiv_eq_ediv_of_nonneg _ (by rw [show (2 : Int) ^ n = ((2 ^ n : Nat) : Int) by simp]; exact Int.natCast_nonneg _)]
theorem ofInt_num (a : W32) : BitVec.ofInt 32 (num a) = a := by unfold num; simp
theorem bits_xor (a b : W32) : bits .xor .u32 (num a) (num b) = num (a ^^^ b) := by
  unfold bits
  show IntKind.u32.wrap ((BitVec.ofInt 32 (num a) ^^^ BitVec.ofInt 32 (num b)).toNat : Int) = _
  rw [ofInt_num, ofInt_num]
  exact wrap_num _
theorem bits_and (a b : W32) : bits .and .u32 (num a) (num b) = num (a &&& b) := by
  unfold bits
  show IntKind.u32.wrap ((BitVec.ofInt 32 (num a) &&& BitVec.ofInt 32 (num b)).toNat : Int) = _
  rw [ofInt_num, ofInt_num]
  exact wrap_num _
theorem bits_or (a b : W32) : bits .or .u32 (num a) (num b) = num (a ||| b) := by
  unfold bits
  show IntKind.u32.wrap ((BitVec.ofInt 32 (num a) ||| BitVec.ofInt 32 (num b)).toNat : Int) = _
  rw [ofInt_num, ofInt_num]
  exact wrap_num _
/-- A byte as a word. -/
theorem num_byte (n : Nat) (h : n < 256) : num (BitVec.ofNat 32 n) = (n : Int) := by
  unfold num
  rw [BitVec.toNat_ofNat, Nat.mod_eq_of_lt (by omega)]
/-- The value of a word. -/
def w32 (v : W32) : Value := .int .u32 (num v)
end Go.Proofs.YtplcjgpmainbnaaDoor.Bits
