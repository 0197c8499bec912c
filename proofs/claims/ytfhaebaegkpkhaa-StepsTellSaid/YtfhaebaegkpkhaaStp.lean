/- Steps of a plan in plain Lean. -/
import Derived.WalkKit
set_option linter.unusedVariables false
set_option linter.unusedSimpArgs false
namespace Go.Proofs.Ytfhaebaegkpkhaa.Stp
open Go
structure Stp where
  kind : Int
  pos : Int
  layer : Int
  head : Int
  row : Int
deriving DecidableEq
def Stp.cells (s : Stp) : List Value := [.int .i64 s.kind, .int .i64 s.pos, .int .i64 s.layer, .int .i64 s.head, .int .i64 s.row]
def Stp.val (s : Stp) : Value := .agg #[.int .i64 s.kind, .int .i64 s.pos, .int .i64 s.layer, .int .i64 s.head, .int .i64 s.row]
def flatS (l : List Stp) : List Value := l.flatMap Stp.cells
theorem flatS_append (l m : List Stp) : flatS (l ++ m) = flatS l ++ flatS m := by simp [flatS]
theorem flatS_length (l : List Stp) : (flatS l).length = l.length * 5 := by
  induction l with
  | nil => rfl
  | cons b l ih => simp [flatS, Stp.cells] at ih ⊢; omega
/-- So many steps of a kind, one for each row. -/
def rowsL (s : Stp) (kind : Int) (many : Nat) : List Stp := (List.range many).map fun r : Nat => { s with kind := kind, row := (r : Int) }
def onesL (s : Stp) (kinds : List Int) : List Stp := kinds.map fun k => { s with kind := k }
theorem rowsL_one (s : Stp) (k : Int) (h : s.row = 0) : rowsL s k 1 = onesL s [k] := by
  cases s
  simp only at h
  subst h
  rfl
theorem rowsL_length (s : Stp) (k : Int) (n : Nat) : (rowsL s k n).length = n := by simp [rowsL]
theorem onesL_length (s : Stp) (ks : List Int) : (onesL s ks).length = ks.length := by simp [onesL]
theorem rowsL_succ (s : Stp) (k : Int) (n : Nat) : rowsL s k (n + 1) = rowsL s k n ++ [{ s with kind := k, row := (n : Int) }] := by
  unfold rowsL
  rw [List.range_succ, List.map_append]
  rfl
/-- The sizes that a plan's steps hang on. -/
structure Pln where
  dim : Nat
  heads : Nat
  layers : Nat
  hidden : Nat
  vocab : Nat
  prompt : Nat
  limit : Nat
def headsL (s : Stp) (n at_ : Nat) : List Stp := (List.range n).flatMap fun h : Nat => rowsL { s with head := (h : Int) } 9 (at_ + 1) ++ onesL { s with head := (h : Int) } [10, 11]
theorem headsL_succ (s : Stp) (n at_ : Nat) : headsL s (n + 1) at_ = headsL s n at_ ++ (rowsL { s with head := (n : Int) } 9 (at_ + 1) ++ onesL { s with head := (n : Int) } [10, 11]) := by
  unfold headsL
  rw [List.range_succ, List.flatMap_append]
  simp
def layerL (p : Pln) (at_ layer : Nat) : List Stp :=
  let s : Stp := ⟨0, at_, layer, 0, 0⟩
  onesL s [2] ++ rowsL s 3 p.dim ++ rowsL s 4 p.dim ++ rowsL s 5 p.dim ++ onesL s [6, 7, 8] ++ headsL s p.heads at_ ++ rowsL s 12 p.dim ++ onesL s [13, 14] ++ rowsL s 15 p.hidden ++ onesL s [16] ++ rowsL s 17 p.hidden ++ onesL s [18] ++ rowsL s 19 p.dim ++ onesL s [20]
def layersL (p : Pln) (at_ n : Nat) : List Stp := (List.range n).flatMap fun i : Nat => layerL p at_ i
theorem layersL_succ (p : Pln) (at_ n : Nat) : layersL p at_ (n + 1) = layersL p at_ n ++ layerL p at_ n := by
  unfold layersL
  rw [List.range_succ, List.flatMap_append]
  simp
def placeL (p : Pln) (at_ : Nat) : List Stp :=
  let s : Stp := ⟨0, at_, 0, 0, 0⟩
  onesL s [1] ++ layersL p at_ p.layers ++ onesL s [21] ++ rowsL s 22 p.vocab ++ (if p.prompt ≤ at_ + 1 then onesL s [23] else [])
def Pln.places (p : Pln) : Nat := p.prompt + p.limit - 1
def stepsTo (p : Pln) (n : Nat) : List Stp := (List.range n).flatMap fun at_ : Nat => placeL p at_
theorem stepsTo_succ (p : Pln) (n : Nat) : stepsTo p (n + 1) = stepsTo p n ++ placeL p n := by
  unfold stepsTo
  rw [List.range_succ, List.flatMap_append]
  simp
def stepsL (p : Pln) : List Stp := stepsTo p p.places
theorem headsL_length (s : Stp) (at_ : Nat) : ∀ n, (headsL s n at_).length = n * (at_ + 3)
  | 0 => by simp [headsL]
  | n + 1 => by
    rw [headsL_succ, List.length_append, headsL_length s at_ n, List.length_append, rowsL_length, onesL_length, Nat.add_mul n 1, Nat.one_mul]
    simp only [List.length_cons, List.length_nil]
theorem layerL_length (p : Pln) (at_ i : Nat) : (layerL p at_ i).length = 5 * p.dim + 2 * p.hidden + p.heads * (at_ + 3) + 9 := by
  unfold layerL
  simp only [List.length_append, rowsL_length, onesL_length, headsL_length, List.length_cons, List.length_nil]
  omega
theorem layersL_length (p : Pln) (at_ : Nat) : ∀ n, (layersL p at_ n).length = n * (5 * p.dim + 2 * p.hidden + p.heads * (at_ + 3) + 9)
  | 0 => by simp [layersL]
  | n + 1 => by
    rw [layersL_succ, List.length_append, layersL_length p at_ n, layerL_length, Nat.add_mul n 1, Nat.one_mul]
theorem placeL_length (p : Pln) (at_ : Nat) : (placeL p at_).length = p.layers * (5 * p.dim + 2 * p.hidden + p.heads * (at_ + 3) + 9) + p.vocab + 2 + (if p.prompt ≤ at_ + 1 then 1 else 0) := by
  unfold placeL
  simp only [List.length_append, layersL_length, rowsL_length, onesL_length, List.length_cons, List.length_nil]
  split <;> simp [onesL_length] <;> omega
theorem placeL_pos (p : Pln) (at_ : Nat) : 2 ≤ (placeL p at_).length := by rw [placeL_length]; omega
/-- The chapter's example has 32 steps. -/
theorem example32 : (stepsL ⟨2, 1, 1, 2, 3, 1, 1⟩).length = 32 := by decide +kernel
end Go.Proofs.Ytfhaebaegkpkhaa.Stp
