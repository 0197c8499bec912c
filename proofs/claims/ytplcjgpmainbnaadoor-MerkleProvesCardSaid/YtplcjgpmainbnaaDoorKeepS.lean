/- Which blocks a range over a function keeps. -/
import Derived.RangeFuncNested
import Derived.RangeFuncBound
import Derived.RangeFuncCalls
import Derived.RangeFuncLeaves
import Derived.Shelf.Abstract
import Derived.Shelf.RegionOpen
import Derived.OwnWalkIn
import Derived.TacticsInMore
import Derived.LoopNIn
import Derived.LoopIn
import Derived.Sort.QuietIn
import Derived.WalkKit
set_option linter.unusedVariables false
set_option linter.unusedSimpArgs false
namespace Go.Proofs.YtplcjgpmainbnaaDoor.SeqL
open Go Go.RowKit Go.Shelf
/-- The blocks of S are as they were. -/
structure KeepS (S : Nat → Prop) (A B : World) : Prop where
  size : A.heap.size ≤ B.heap.size
  same : ∀ k, S k → B.heap[k]? = A.heap[k]?
theorem KeepS.refl (S : Nat → Prop) (A : World) : KeepS S A A := ⟨Nat.le_refl _, fun _ _ => rfl⟩
theorem KeepS.trans {S : Nat → Prop} {A B C : World} (h : KeepS S A B) (k : KeepS S B C) : KeepS S A C := ⟨Nat.le_trans h.size k.size, fun b hb => (k.same b hb).trans (h.same b hb)⟩
theorem KeepS.below {S : Nat → Prop} {A B : World} {n : Nat} (h : Below n A B) (hS : ∀ k, S k → k < n) : KeepS S A B := ⟨h.size, fun k hk => h.block k (hS k hk)⟩
theorem KeepS.setCell {S : Nat → Prop} {A B : World} (h : KeepS S A B) {b : Nat} (o : Nat) (hb : ¬ S b) (v : Value) : KeepS S A (B.setCell ⟨b, o, none⟩ v) :=
  h.trans ⟨by simp [World.setCell], fun k hk => Below.heap_setCell _ _ _ _ (by rintro rfl; exact hb hk)⟩
theorem KeepS.alloc {S : Nat → Prop} {A B : World} (h : KeepS S A B) (hS : ∀ k, S k → k < A.heap.size) (o : Obj) : KeepS S A (B.alloc o) :=
  h.trans ⟨by simp, fun k hk => Below.heap_alloc _ _ _ (Nat.lt_of_lt_of_le (hS k hk) h.size)⟩
theorem KeepS.grown {S : Nat → Prop} {A B C : World} {row : Option Nat} (h : KeepS S A B) (hg : B.grownBy C row) (hS : ∀ k, S k → k < A.heap.size) (hr : ∀ k, row = some k → ¬ S k) : KeepS S A C :=
  h.trans ⟨hg.size, fun k hk => hg.block k (Nat.lt_of_lt_of_le (hS k hk) h.size) (fun e => hr k e.symm hk)⟩
theorem KeepS.putObj {S : Nat → Prop} (W : World) (l : Nat) (o' : Obj) (hl : ¬ S l) : KeepS S W (W.putObj l o') :=
  ⟨(grownBy_putObj' W l o').size, fun k hk => by
    by_cases h : k < W.heap.size
    · exact (grownBy_putObj' W l o').block k h (fun e => hl (by cases e; exact hk))
    · have h1 := (grownBy_putObj' W l o').size
      have : (W.putObj l o').heap.size = W.heap.size := by simp [World.putObj]
      rw [Array.getElem?_eq_none (by omega), Array.getElem?_eq_none (by omega)]⟩
theorem keepS_b {S : Nat → Prop} {n : Nat} (hS : ∀ k, S k → k < n) (W : World) (l : Nat) (o o' : Obj) (hl : n ≤ l) (_ : W.heap[l]? = some o) (_ : o.isCells = false) (_ : o.isWalk = false) : KeepS S W (W.putObj l o') :=
  KeepS.putObj W l o' fun h => by have := hS l h; omega
end Go.Proofs.YtplcjgpmainbnaaDoor.SeqL
