/- A tree of digests: plain. -/
import Derived.KernelRfl
set_option linter.unusedVariables false
set_option linter.unusedSimpArgs false
namespace Go.Proofs.YtplcjgpmainbnaaDoor.Mk
/-- The greatest power of two that is less than a number (of two at least), by the code's own loop. -/
def halfGo : Nat → Nat → Nat → Nat
  | 0, k, _ => k
  | f + 1, k, n => if 2 * k < n then halfGo f (2 * k) n else k
def half (n : Nat) : Nat := halfGo n 1 n
theorem halfGo_pos : ∀ f k n, 1 ≤ k → k ≤ halfGo f k n := by
  intro f
  induction f with
  | zero => intro k n _; exact Nat.le_refl _
  | succ f ih =>
    intro k n hk
    unfold halfGo
    split
    · have := ih (2 * k) n (by omega); omega
    · exact Nat.le_refl _
theorem halfGo_lt : ∀ f k n, k < n → halfGo f k n < n := by
  intro f
  induction f with
  | zero => intro k n h; exact h
  | succ f ih =>
    intro k n h
    unfold halfGo
    split
    · rename_i h2; exact ih (2 * k) n h2
    · exact h
theorem half_pos (n : Nat) : 1 ≤ half n := halfGo_pos n 1 n (Nat.le_refl _)
theorem half_lt {n : Nat} (h : 2 ≤ n) : half n < n := halfGo_lt n 1 n (by omega)
/-- More rounds turn nothing. -/
theorem halfGo_stop : ∀ f k n, n ≤ 2 * k → halfGo f k n = k := by
  intro f k n h
  cases f with
  | zero => rfl
  | succ f => unfold halfGo; rw [if_neg (by omega)]
theorem halfGo_fuel : ∀ f k n, 1 ≤ k → n ≤ f + k → n ≤ 2 * halfGo f k n := by
  intro f
  induction f with
  | zero => intro k n h1 h2; unfold halfGo; omega
  | succ f ih =>
    intro k n h1 h2
    unfold halfGo
    split
    · exact ih (2 * k) n (by omega) (by omega)
    · omega
theorem half_le {n : Nat} : n ≤ 2 * half n := halfGo_fuel n 1 n (Nat.le_refl _) (by omega)
section
variable {D : Type} (none : D) (node : D → D → D)
/-- The root of leaves' digests. -/
def root (l : List D) : D :=
  match h : l with
  | [] => none
  | [x] => x
  | x :: y :: r => node (root ((x :: y :: r).take (half (x :: y :: r).length))) (root ((x :: y :: r).drop (half (x :: y :: r).length)))
termination_by l.length
decreasing_by
  · subst h
    have := half_lt (n := (x :: y :: r).length) (by simp)
    simp only [List.length_take]
    omega
  · subst h
    have h1 := half_pos (x :: y :: r).length
    have h2 := half_lt (n := (x :: y :: r).length) (by simp)
    simp only [List.length_drop]
    omega
theorem root_nil : root none node [] = none := by unfold root; rfl
theorem root_one (x : D) : root none node [x] = x := by unfold root; rfl
theorem root_split {l : List D} (h : 2 ≤ l.length) : root none node l = node (root none node (l.take (half l.length))) (root none node (l.drop (half l.length))) := by
  match l, h with
  | x :: y :: r, _ => rw [root]
/-- The digests beside a leaf's way, from the leaf on. -/
def proof (i : Nat) (l : List D) : List D :=
  if h : 2 ≤ l.length then
    if i < half l.length then proof i (l.take (half l.length)) ++ [root none node (l.drop (half l.length))]
    else proof (i - half l.length) (l.drop (half l.length)) ++ [root none node (l.take (half l.length))]
  else []
termination_by l.length
decreasing_by
  · have := half_lt h
    simp only [List.length_take]
    omega
  · have h1 := half_pos l.length
    have h2 := half_lt h
    simp only [List.length_drop]
    omega
theorem proof_left {l : List D} {i : Nat} (h : 2 ≤ l.length) (hi : i < half l.length) : proof none node i l = proof none node i (l.take (half l.length)) ++ [root none node (l.drop (half l.length))] := by
  rw [proof, dif_pos h, if_pos hi]
theorem proof_right {l : List D} {i : Nat} (h : 2 ≤ l.length) (hi : ¬ i < half l.length) : proof none node i l = proof none node (i - half l.length) (l.drop (half l.length)) ++ [root none node (l.take (half l.length))] := by
  rw [proof, dif_pos h, if_neg hi]
theorem proof_few {l : List D} {i : Nat} (h : ¬ 2 ≤ l.length) : proof none node i l = [] := by
  rw [proof, dif_neg h]
/-- The parts beside the way from the root to a leaf: from, to, and whether ahead of it. -/
def parts : Nat → Nat → Nat → Nat → List (Nat × Nat × Bool)
  | 0, _, _, _ => []
  | f + 1, a, b, i =>
    if 1 < b - a then
      let mid := a + half (b - a)
      if mid ≤ i then (a, mid, true) :: parts f mid b i else (mid, b, false) :: parts f a mid i
    else []
theorem parts_proof : ∀ (f a b i : Nat) (l : List D), b - a ≤ f → a ≤ b → b ≤ l.length → a ≤ i → i < b →
    ((parts f a b i).map fun p => root none node ((l.take p.2.1).drop p.1)).reverse = proof none node (i - a) ((l.take b).drop a) := by
  intro f
  induction f with
  | zero => intro a b i l h1 h2 h3 h4 h5; omega
  | succ f ih =>
    intro a b i l h1 h2 h3 h4 h5
    have hlen : ((l.take b).drop a).length = b - a := by rw [List.length_drop, List.length_take]; omega
    unfold parts
    by_cases hb : 1 < b - a
    · have g1 := half_pos (b - a)
      have g2 := half_lt (n := b - a) (by omega)
      rw [if_pos hb]
      simp only
      have e1 : ((l.take b).drop a).take (half (b - a)) = (l.take (a + half (b - a))).drop a := by
        rw [List.take_drop, List.take_take, Nat.min_eq_left (by omega)]
      have e2 : ((l.take b).drop a).drop (half (b - a)) = (l.take b).drop (a + half (b - a)) := by
        rw [List.drop_drop]
      by_cases hm : a + half (b - a) ≤ i
      · rw [if_pos hm, List.map_cons, List.reverse_cons, ih _ _ _ _ (by omega) (by omega) h3 hm h5]
        rw [proof_right none node (by omega : 2 ≤ ((l.take b).drop a).length) (by rw [hlen]; omega), hlen, e1, e2, show i - a - half (b - a) = i - (a + half (b - a)) by omega]
      · rw [if_neg hm, List.map_cons, List.reverse_cons, ih _ _ _ _ (by omega) (by omega) (by omega) h4 (by omega)]
        rw [proof_left none node (by omega : 2 ≤ ((l.take b).drop a).length) (by rw [hlen]; omega), hlen, e1, e2]
    · rw [if_neg hb, proof_few none node (by omega)]
      rfl
/-- Up from a leaf: each time the other one is ahead (true) or behind. -/
def foldUp : List Bool → List D → D → D
  | w :: ws, q :: qs, x => foldUp ws qs (if w then node q x else node x q)
  | _, _, x => x
theorem foldUp_append : ∀ (ws : List Bool) (qs : List D) (x : D) (w : Bool) (q : D), ws.length = qs.length → foldUp node (ws ++ [w]) (qs ++ [q]) x = if w then node q (foldUp node ws qs x) else node (foldUp node ws qs x) q := by
  intro ws
  induction ws with
  | nil => intro qs x w q h; rw [List.length_eq_zero_iff.1 h.symm]; rfl
  | cons w' ws ih =>
    intro qs x w q h
    match qs, h with
    | q' :: qs, h => exact ih qs _ w q (by simpa using h)
theorem parts_length : ∀ (f a b i : Nat) (l : List D), b - a ≤ f → a ≤ b → b ≤ l.length → a ≤ i → i < b → (parts f a b i).length = (proof none node (i - a) ((l.take b).drop a)).length := by
  intro f a b i l h1 h2 h3 h4 h5
  rw [← parts_proof none node f a b i l h1 h2 h3 h4 h5]
  simp
theorem parts_fold : ∀ (f a b i : Nat) (l : List D) (x : D), b - a ≤ f → a ≤ b → b ≤ l.length → a ≤ i → i < b → l[i]? = some x →
    foldUp node ((parts f a b i).map (·.2.2)).reverse (proof none node (i - a) ((l.take b).drop a)) x = root none node ((l.take b).drop a) := by
  intro f
  induction f with
  | zero => intro a b i l x h1 h2 h3 h4 h5; omega
  | succ f ih =>
    intro a b i l x h1 h2 h3 h4 h5 hx
    have hlen : ((l.take b).drop a).length = b - a := by rw [List.length_drop, List.length_take]; omega
    have hpl := parts_length none node (f + 1) a b i l h1 h2 h3 h4 h5
    unfold parts at hpl ⊢
    by_cases hb : 1 < b - a
    · have g1 := half_pos (b - a)
      have g2 := half_lt (n := b - a) (by omega)
      rw [if_pos hb] at hpl ⊢
      simp only at hpl ⊢
      have e1 : ((l.take b).drop a).take (half (b - a)) = (l.take (a + half (b - a))).drop a := by
        rw [List.take_drop, List.take_take, Nat.min_eq_left (by omega)]
      have e2 : ((l.take b).drop a).drop (half (b - a)) = (l.take b).drop (a + half (b - a)) := by
        rw [List.drop_drop]
      rw [root_split none node (by omega : 2 ≤ ((l.take b).drop a).length), hlen, e1, e2]
      by_cases hm : a + half (b - a) ≤ i
      · have hl2 := parts_length none node f (a + half (b - a)) b i l (by omega) (by omega) h3 hm h5
        have hi2 := ih (a + half (b - a)) b i l x (by omega) (by omega) h3 hm h5 hx
        rw [if_pos hm, List.map_cons, List.reverse_cons]
        rw [proof_right none node (by omega : 2 ≤ ((l.take b).drop a).length) (by rw [hlen]; omega), hlen, e1, e2, show i - a - half (b - a) = i - (a + half (b - a)) by omega]
        rw [foldUp_append node _ _ _ _ _ (by rw [List.length_reverse, List.length_map]; exact hl2), hi2]
        rfl
      · have hl2 := parts_length none node f a (a + half (b - a)) i l (by omega) (by omega) (by omega) h4 (by omega)
        have hi2 := ih a (a + half (b - a)) i l x (by omega) (by omega) (by omega) h4 (by omega) hx
        rw [if_neg hm, List.map_cons, List.reverse_cons]
        rw [proof_left none node (by omega : 2 ≤ ((l.take b).drop a).length) (by rw [hlen]; omega), hlen, e1, e2]
        rw [foldUp_append node _ _ _ _ _ (by rw [List.length_reverse, List.length_map]; exact hl2), hi2]
        rfl
    · rw [if_neg hb, proof_few none node (by omega)]
      have e : (l.take b).drop a = [x] := by
        refine List.ext_getElem? fun j => ?_
        rw [List.getElem?_drop, List.getElem?_take]
        have : i = a := by omega
        subst this
        cases j with
        | zero => rw [if_pos (by omega)]; simpa using hx
        | succ j => rw [if_neg (by omega)]; simp
      rw [e, root_one]
      rfl
/-- A proof does not hang on its own leaf. -/
theorem proof_set : ∀ (m : Nat) (l : List D) (i : Nat) (y : D), l.length ≤ m → i < l.length → proof none node i (l.set i y) = proof none node i l := by
  intro m
  induction m with
  | zero => intro l i y h hi; omega
  | succ m ih =>
    intro l i y h hi
    by_cases h2 : 2 ≤ l.length
    · have g1 := half_pos l.length
      have g2 := half_lt (n := l.length) h2
      by_cases hm : i < half l.length
      · rw [proof_left none node (by simpa using h2) (by simpa using hm), proof_left none node h2 hm, List.length_set, List.take_set, List.drop_set, if_pos hm, ih _ _ _ (by rw [List.length_take]; omega) (by rw [List.length_take]; omega)]
      · rw [proof_right none node (by simpa using h2) (by simpa using hm), proof_right none node h2 hm, List.length_set, List.take_set, List.drop_set, if_neg hm, ih _ _ _ (by rw [List.length_drop]; omega) (by rw [List.length_drop]; omega)]
        rw [List.set_eq_of_length_le (by rw [List.length_take]; omega)]
    · rw [proof_few none node (by simpa using h2), proof_few none node h2]
end
end Go.Proofs.YtplcjgpmainbnaaDoor.Mk
