/- A model in plain Lean: its parts, what is wrong with it, its leaves. -/
import Derived.Test.YtfhaebaegkpkhaaPlace
import Derived.Test.YtfhaebaegkpkhaaCod
set_option linter.unusedVariables false
set_option linter.unusedSimpArgs false
namespace Go.Proofs.Ytfhaebaegkpkhaa.Cfg
open Cod
structure Mat where
  rows : Int
  cols : Int
  l : List Int
structure Lay where
  n1 : List Int
  q : Mat
  k : Mat
  v : Mat
  o : Mat
  n2 : List Int
  g : Mat
  u : Mat
  d : Mat
structure Mod where
  c : C6
  al : List Nat
  ps : List (Int × Int)
  em : Mat
  ls : List Lay
  norm : List Int
  out : Mat
def isNum (n : Int) : Bool := decide (-2147483648 ≤ n) && decide (n ≤ 2147483647)
def isWt (n : Int) : Bool := decide (-16777216 ≤ n) && decide (n ≤ 16777216)
def vecErr (l : List Int) : Int := if l.length = 0 ∨ 512 < l.length then 13 else if l.all isNum then 0 else 10
def matErr (m : Mat) : Int := if m.rows < 1 ∨ 512 < m.rows ∨ m.cols < 1 ∨ 64 < m.cols ∨ (m.l.length : Int) ≠ m.rows * m.cols then 13 else if m.l.all isWt then 0 else 10
def noLay : Lay := ⟨[], ⟨0, 0, []⟩, ⟨0, 0, []⟩, ⟨0, 0, []⟩, ⟨0, 0, []⟩, [], ⟨0, 0, []⟩, ⟨0, 0, []⟩, ⟨0, 0, []⟩⟩
def Mod.lay (M : Mod) (i : Int) : Lay := M.ls.getD i.toNat noLay
def Mod.mat (M : Mod) (kind i : Int) : Mat :=
  if kind = 1 then M.em else if kind = 12 then M.out else
  let L := M.lay i
  if kind = 3 then L.q else if kind = 4 then L.k else if kind = 5 then L.v else if kind = 6 then L.o else if kind = 8 then L.g else if kind = 9 then L.u else L.d
def Mod.vec (M : Mod) (kind i : Int) : List Int := if kind = 2 then (M.lay i).n1 else if kind = 7 then (M.lay i).n2 else M.norm
def Mod.part (M : Mod) (b : Blk) : List Int := if b.vec then M.vec b.kind b.layer else (M.mat b.kind b.layer).l
def Mod.partErr (M : Mod) (b : Blk) : Int :=
  if b.vec then (if ((M.vec b.kind b.layer).length : Int) ≠ b.cols then 13 else vecErr (M.vec b.kind b.layer))
  else (if (M.mat b.kind b.layer).rows ≠ b.rows ∨ (M.mat b.kind b.layer).cols ≠ b.cols then 13 else matErr (M.mat b.kind b.layer))
/-- The first error of a list of parts. -/
def firstErr (f : Blk → Int) : List Blk → Int
  | [] => 0
  | b :: l => if f b = 0 then firstErr f l else f b
theorem firstErr_append (f : Blk → Int) : ∀ (l m : List Blk), firstErr f l = 0 → firstErr f (l ++ m) = firstErr f m
  | [], _, _ => rfl
  | b :: l, m, h => by
    unfold firstErr at h
    split at h
    · rename_i h0
      show (if f b = 0 then firstErr f (l ++ m) else f b) = _
      rw [if_pos h0, firstErr_append f l m h]
    · rename_i h0; exact absurd h h0
theorem firstErr_prefix (f : Blk → Int) : ∀ (l : List Blk) (b : Blk) (m : List Blk), firstErr f l = 0 → f b ≠ 0 → firstErr f (l ++ b :: m) = f b := fun l b m h h0 => by
  rw [firstErr_append f l _ h]
  show (if f b = 0 then firstErr f m else f b) = _
  rw [if_neg h0]
end Go.Proofs.Ytfhaebaegkpkhaa.Cfg
