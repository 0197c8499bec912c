/- SHA-256 on words of 32 bits: plain. -/
import Derived.KernelRfl
set_option linter.unusedVariables false
set_option linter.unusedSimpArgs false
namespace Go.Proofs.YtplcjgpmainbnaaDoor.Sha
abbrev W32 := BitVec 32
def rot (x : W32) (k : Nat) : W32 := x >>> k ||| x <<< (32 - k)
def sig0 (x : W32) : W32 := rot x 7 ^^^ rot x 18 ^^^ x >>> 3
def sig1 (x : W32) : W32 := rot x 17 ^^^ rot x 19 ^^^ x >>> 10
def big0 (x : W32) : W32 := rot x 2 ^^^ rot x 13 ^^^ rot x 22
def big1 (x : W32) : W32 := rot x 6 ^^^ rot x 11 ^^^ rot x 25
def first : List W32 := [0x6a09e667, 0xbb67ae85, 0x3c6ef372, 0xa54ff53a, 0x510e527f, 0x9b05688c, 0x1f83d9ab, 0x5be0cd19]
def consts : List W32 := [
  0x428a2f98, 0x71374491, 0xb5c0fbcf, 0xe9b5dba5, 0x3956c25b, 0x59f111f1, 0x923f82a4, 0xab1c5ed5,
  0xd807aa98, 0x12835b01, 0x243185be, 0x550c7dc3, 0x72be5d74, 0x80deb1fe, 0x9bdc06a7, 0xc19bf174,
  0xe49b69c1, 0xefbe4786, 0x0fc19dc6, 0x240ca1cc, 0x2de92c6f, 0x4a7484aa, 0x5cb0a9dc, 0x76f988da,
  0x983e5152, 0xa831c66d, 0xb00327c8, 0xbf597fc7, 0xc6e00bf3, 0xd5a79147, 0x06ca6351, 0x14292967,
  0x27b70a85, 0x2e1b2138, 0x4d2c6dfc, 0x53380d13, 0x650a7354, 0x766a0abb, 0x81c2c92e, 0x92722c85,
  0xa2bfe8a1, 0xa81a664b, 0xc24b8b70, 0xc76c51a3, 0xd192e819, 0xd6990624, 0xf40e3585, 0x106aa070,
  0x19a4c116, 0x1e376c08, 0x2748774c, 0x34b0bcb5, 0x391c0cb3, 0x4ed8aa4a, 0x5b9cca4f, 0x682e6ff3,
  0x748f82ee, 0x78a5636f, 0x84c87814, 0x8cc70208, 0x90befffa, 0xa4506ceb, 0xbef9a3f7, 0xc67178f2]
/-- A word of four bytes. -/
def word (b : List Nat) (t : Nat) : W32 :=
  BitVec.ofNat 32 (b.getD (4 * t) 0) <<< 24 ||| BitVec.ofNat 32 (b.getD (4 * t + 1) 0) <<< 16 ||| BitVec.ofNat 32 (b.getD (4 * t + 2) 0) <<< 8 ||| BitVec.ofNat 32 (b.getD (4 * t + 3) 0)
/-- The next word of the row of words. -/
def nextW (b : List Nat) (w : List W32) (t : Nat) : W32 :=
  if t < 16 then word b t else w.getD (t - 16) 0 + w.getD (t - 7) 0 + sig0 (w.getD (t - 15) 0) + sig1 (w.getD (t - 2) 0)
def wordsTo (b : List Nat) : Nat → List W32
  | 0 => []
  | t + 1 => wordsTo b t ++ [nextW b (wordsTo b t) t]
/-- Eight words. -/
structure St where
  a : W32
  b : W32
  c : W32
  d : W32
  e : W32
  f : W32
  g : W32
  h : W32
deriving DecidableEq
def St.list (s : St) : List W32 := [s.a, s.b, s.c, s.d, s.e, s.f, s.g, s.h]
def step (s : St) (k w : W32) : St :=
  let p := s.h + big1 s.e + (s.g ^^^ s.e &&& (s.f ^^^ s.g)) + k + w
  let q := big0 s.a + (s.a &&& s.b ||| s.c &&& (s.a ||| s.b))
  ⟨p + q, s.a, s.b, s.c, s.d + p, s.e, s.f, s.g⟩
def stepsTo (s : St) (w : List W32) : Nat → St
  | 0 => s
  | t + 1 => step (stepsTo s w t) (consts.getD t 0) (w.getD t 0)
def St.add (s t : St) : St := ⟨s.a + t.a, s.b + t.b, s.c + t.c, s.d + t.d, s.e + t.e, s.f + t.f, s.g + t.g, s.h + t.h⟩
def turn (s : St) (b : List Nat) : St := (stepsTo s (wordsTo b 64) 64).add s
def st0 : St := ⟨0x6a09e667, 0xbb67ae85, 0x3c6ef372, 0xa54ff53a, 0x510e527f, 0x9b05688c, 0x1f83d9ab, 0x5be0cd19⟩
theorem st0_list : st0.list = first := rfl
theorem consts_length : consts.length = 64 := rfl
/-- Bytes are taken: all that fill blocks are turned in. -/
def takeAll : Nat → St → List Nat → St × List Nat
  | 0, s, l => (s, l)
  | n + 1, s, l => if l.length < 64 then (s, l) else takeAll n (turn s (l.take 64)) (l.drop 64)
def write (h : St × List Nat) (b : List Nat) : St × List Nat := takeAll ((h.2 ++ b).length / 64) h.1 (h.2 ++ b)
/-- The eight bytes of a number. -/
def eight (n : Nat) : List Nat := (List.range 8).map fun i => n / 2 ^ (56 - 8 * i) % 256
def noughts (r : Nat) : Nat := (119 - r) % 64
def out (s : St) : List Nat := s.list.flatMap fun x : W32 => (List.range 4).map fun k => (x >>> (24 - 8 * k)).toNat % 256
/-- The digest of bytes. -/
def sum (b : List Nat) : List Nat :=
  let h := write (st0, []) b
  out (write (write h (128 :: List.replicate (noughts h.2.length) 0)) (eight (8 * b.length % 2 ^ 64))).1
theorem sum_a : (sum [0, 97]).take 2 = [2, 42] := by decide +kernel
theorem sum_b : (sum [0, 98]).take 2 = [87, 235] := by decide +kernel
end Go.Proofs.YtplcjgpmainbnaaDoor.Sha
