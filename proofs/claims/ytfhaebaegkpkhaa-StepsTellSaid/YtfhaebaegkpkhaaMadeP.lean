/- A small model out of numbers that go round, in plain Lean. -/
import Derived.Test.YtfhaebaegkpkhaaWt
set_option linter.unusedVariables false
set_option linter.unusedSimpArgs false
namespace Go.Proofs.Ytfhaebaegkpkhaa.Cfg
/-- n numbers from a count on, going round. -/
def nextL (fill : List Int) (at_ n : Nat) : List Int := (List.range n).map fun i => fill.getD ((at_ + i) % fill.length) 0
theorem nextL_length (fill : List Int) (at_ n : Nat) : (nextL fill at_ n).length = n := by simp [nextL]
theorem nextL_succ (fill : List Int) (at_ n : Nat) : nextL fill at_ (n + 1) = nextL fill at_ n ++ [fill.getD ((at_ + n) % fill.length) 0] := by
  unfold nextL
  rw [List.range_succ, List.map_append]
  rfl
def nextM (fill : List Int) (at_ r c : Nat) : Mat := ⟨r, c, nextL fill at_ (r * c)⟩
/-- A layer of so many columns, and so many of its gate, from a count on; and how many numbers it takes. -/
def layAt (fill : List Int) (d h at_ : Nat) : Lay :=
  ⟨nextL fill at_ d, nextM fill (at_ + d) d d, nextM fill (at_ + d + d * d) d d, nextM fill (at_ + d + d * d + d * d) d d, nextM fill (at_ + d + d * d + d * d + d * d) d d,
   nextL fill (at_ + d + d * d + d * d + d * d + d * d) d, nextM fill (at_ + d + d * d + d * d + d * d + d * d + d) h d, nextM fill (at_ + d + d * d + d * d + d * d + d * d + d + h * d) h d, nextM fill (at_ + d + d * d + d * d + d * d + d * d + d + h * d + h * d) d h⟩
def layStep (d h : Nat) : Nat := d + d * d + d * d + d * d + d * d + d + h * d + h * d + d * h
def laysAt (fill : List Int) (d h at_ n : Nat) : List Lay := (List.range n).map fun i => layAt fill d h (at_ + i * layStep d h)
theorem laysAt_length (fill : List Int) (d h at_ n : Nat) : (laysAt fill d h at_ n).length = n := by simp [laysAt]
theorem laysAt_succ (fill : List Int) (d h at_ n : Nat) : laysAt fill d h at_ (n + 1) = laysAt fill d h at_ n ++ [layAt fill d h (at_ + n * layStep d h)] := by
  unfold laysAt
  rw [List.range_succ, List.map_append]
  rfl
/-- The sizes of a small model. -/
structure Sz where
  v : Nat
  d : Nat
  h : Nat
  l : Nat
  c : Nat
  x : Nat
def Sz.ok (s : Sz) : Prop := (2 ≤ s.v ∧ s.v ≤ 12) ∧ (s.d = 2 ∨ s.d = 4) ∧ (1 ≤ s.h ∧ s.h ≤ 2) ∧ s.d % (2 * s.h) = 0 ∧ (1 ≤ s.l ∧ s.l ≤ 2) ∧ (2 ≤ s.c ∧ s.c ≤ 8) ∧ (1 ≤ s.x ∧ s.x ≤ 4)
def Sz.c6 (s : Sz) : C6 := ⟨s.v, s.d, s.h, s.l, s.c, s.x⟩
def madeM (s : Sz) (fill : List Int) : Mod :=
  ⟨s.c6, (List.range s.v).map fun i => 97 + i, [], nextM fill 0 s.v s.d, laysAt fill s.d s.x (s.v * s.d) s.l, nextL fill (s.v * s.d + s.l * layStep s.d s.x) s.d, nextM fill (s.v * s.d + s.l * layStep s.d s.x + s.d) s.v s.d⟩
end Go.Proofs.Ytfhaebaegkpkhaa.Cfg
