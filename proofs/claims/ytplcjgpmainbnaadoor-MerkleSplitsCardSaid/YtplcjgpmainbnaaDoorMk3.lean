/- A tree of digests: the reference's recursion: plain. -/
import Derived.Test.YtplcjgpmainbnaaDoorMk2
set_option linter.unusedVariables false
set_option linter.unusedSimpArgs false
namespace Go.Proofs.YtplcjgpmainbnaaDoor.Mk
/-- Which side, from the root on. -/
def ways : Nat → Nat → Nat → List Bool
  | 0, _, _ => []
  | f + 1, n, i => if 2 ≤ n then (if i < half n then false :: ways f (half n) i else true :: ways f (n - half n) (i - half n)) else []
theorem parts_ways : ∀ (f a b i : Nat), b - a ≤ f → a ≤ b → a ≤ i → (parts f a b i).map (·.2.2) = ways f (b - a) (i - a) := by
  intro f
  induction f with
  | zero => intro a b i h1 h2 h3; rfl
  | succ f ih =>
    intro a b i h1 h2 h3
    unfold parts ways
    by_cases hb : 1 < b - a
    · have g1 := half_pos (b - a)
      have g2 := half_lt (n := b - a) (by omega)
      rw [if_pos hb, if_pos (by omega : 2 ≤ b - a)]
      simp only
      by_cases hm : a + half (b - a) ≤ i
      · rw [if_pos hm, if_neg (by omega), List.map_cons, ih _ _ _ (by omega) (by omega) hm, show b - (a + half (b - a)) = b - a - half (b - a) by omega, show i - (a + half (b - a)) = i - a - half (b - a) by omega]
      · rw [if_neg hm, if_pos (by omega), List.map_cons, ih _ _ _ (by omega) (by omega) h3, show a + half (b - a) - a = half (b - a) by omega]
    · rw [if_neg hb, if_neg (by omega)]
      rfl
theorem ways_more : ∀ (f g n i : Nat), n ≤ f → n ≤ g → ways f n i = ways g n i := by
  intro f
  induction f with
  | zero =>
    intro g n i h1 h2
    cases g with
    | zero => rfl
    | succ g => unfold ways; rw [if_neg (by omega)]
  | succ f ih =>
    intro g n i h1 h2
    cases g with
    | zero => unfold ways; rw [if_neg (by omega)]
    | succ g =>
      unfold ways
      by_cases h : 2 ≤ n
      · have g1 := half_pos n
        have g2 := half_lt h
        rw [if_pos h, if_pos h, ih g (half n) i (by omega) (by omega), ih g (n - half n) (i - half n) (by omega) (by omega)]
      · rw [if_neg h, if_neg h]
section
variable {D : Type} (node : D → D → D)
/-- The reference's Deep and Fold. -/
def deep : Nat → Nat → Nat → Nat
  | 0, _, _ => 0
  | f + 1, n, i => if n < 2 then 0 else if i < half n then 1 + deep f (half n) i else 1 + deep f (n - half n) (i - half n)
theorem deep_ways : ∀ (f n i : Nat), deep f n i = (ways f n i).length := by
  intro f
  induction f with
  | zero => intro n i; rfl
  | succ f ih =>
    intro n i
    unfold deep ways
    by_cases h : n < 2
    · rw [if_pos h, if_neg (by omega)]; rfl
    · rw [if_neg h, if_pos (show 2 ≤ n by omega)]
      by_cases hi : i < half n
      · rw [if_pos hi, if_pos hi, ih, List.length_cons]; omega
      · rw [if_neg hi, if_neg hi, ih, List.length_cons]; omega
def refFold (d : D) : Nat → Nat → Nat → D → List D → D
  | 0, _, _, x, _ => x
  | f + 1, n, i, x, ps =>
    if n < 2 then x
    else if i < half n then node (refFold d f (half n) i x (ps.take (ps.length - 1))) (ps.getD (ps.length - 1) d)
    else node (ps.getD (ps.length - 1) d) (refFold d f (n - half n) (i - half n) x (ps.take (ps.length - 1)))
theorem refFold_up (d : D) : ∀ (f n i : Nat) (x : D) (ps : List D), (ways f n i).length = ps.length → refFold node d f n i x ps = foldUp node (ways f n i).reverse ps x := by
  intro f
  induction f with
  | zero => intro n i x ps h; rfl
  | succ f ih =>
    intro n i x ps h
    unfold refFold
    unfold ways at h ⊢
    by_cases hn : n < 2
    · rw [if_pos hn, if_neg (by omega)]; rfl
    · rw [if_neg hn]
      rw [if_pos (show 2 ≤ n by omega)] at h ⊢
      have hps : 1 ≤ ps.length := by split at h <;> (simp at h; omega)
      have e : ps = ps.take (ps.length - 1) ++ [ps.getD (ps.length - 1) d] := by
        rw [List.getD_eq_getElem?_getD, List.getElem?_eq_getElem (by omega)]
        conv => lhs; rw [← List.take_length (l := ps), show ps.length = ps.length - 1 + 1 by omega, List.take_succ_eq_append_getElem (by omega)]
        rfl
      by_cases hi : i < half n
      · rw [if_pos hi] at h
        rw [if_pos hi, if_pos hi]
        simp only [List.length_cons] at h
        rw [List.reverse_cons]
        conv => rhs; rw [e]
        rw [foldUp_append node _ _ _ _ _ (by rw [List.length_reverse, List.length_take]; omega), ih _ _ _ _ (by rw [List.length_take]; omega)]
        rfl
      · rw [if_neg hi] at h
        rw [if_neg hi, if_neg hi]
        simp only [List.length_cons] at h
        rw [List.reverse_cons]
        conv => rhs; rw [e]
        rw [foldUp_append node _ _ _ _ _ (by rw [List.length_reverse, List.length_take]; omega), ih _ _ _ _ (by rw [List.length_take]; omega)]
        rfl
end
end Go.Proofs.YtplcjgpmainbnaaDoor.Mk
