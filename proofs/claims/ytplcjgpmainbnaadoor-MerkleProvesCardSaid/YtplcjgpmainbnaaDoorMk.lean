/- A tree of digests: plain. · A tree of digests: two ways to one root: plain. · A tree of digests: the reference's recursion: plain. -/
import Derived.KernelRfl
set_option linter.unusedVariables false
set_option linter.unusedSimpArgs false
namespace Go.Proofs.YtplcjgpmainbnaaDoor.Mk
/-- The greatest power of two that is less than a number (of two at least), by the code's own loop. -/
def halfGo : Nat → Nat → Nat → Nat
  | 0, k, _ => k
  | f + 1, k, n => if 2 * k < n then halfGo f (2 * k) n else k
def half (n : Nat) : Nat := halfGo n 1 n
theorem halfGo_pos : ∀ f k n, 1 ≤ k → k ≤ halfGo f k n := by
  intro f
  induction f with
  | zero => intro k n _; exact Nat.le_refl _
  | succ f ih =>
    intro k n hk
    unfold halfGo
    split
    · have := ih (2 * k) n (by omega); omega
    · exact Nat.le_refl _
theorem halfGo_lt : ∀ f k n, k < n → halfGo f k n < n := by
  intro f
  induction f with
  | zero => intro k n h; exact h
  | succ f ih =>
    intro k n h
    unfold halfGo
    split
    · rename_i h2; exact ih (2 * k) n h2
    · exact h
theorem half_pos (n : Nat) : 1 ≤ half n := halfGo_pos n 1 n (Nat.le_refl _)
theorem half_lt {n : Nat} (h : 2 ≤ n) : half n < n := halfGo_lt n 1 n (by omega)
/-- More rounds turn nothing. -/
theorem halfGo_stop : ∀ f k n, n ≤ 2 * k → halfGo f k n = k := by
  intro f k n h
  cases f with
  | zero => rfl
  | succ f => unfold halfGo; rw [if_neg (by omega)]
theorem halfGo_fuel : ∀ f k n, 1 ≤ k → n ≤ f + k → n ≤ 2 * halfGo f k n := by
  intro f
  induction f with
  | zero => intro k n h1 h2; unfold halfGo; omega
  | succ f ih =>
    intro k n h1 h2
    unfold halfGo
    split
    · exact ih (2 * k) n (by omega) (by omega)
    · omega
theorem half_le {n : Nat} : n ≤ 2 * half n := halfGo_fuel n 1 n (Nat.le_refl _) (by omega)
section
variable {D : Type} (none : D) (node : D → D → D)
/-- The root of leaves' digests. -/
def root (l : List D) : D :=
  match h : l with
  | [] => none
  | [x] => x
  | x :: y :: r => node (root ((x :: y :: r).take (half (x :: y :: r).length))) (root ((x :: y :: r).drop (half (x :: y :: r).length)))
termination_by l.length
decreasing_by
  · subst h
    have := half_lt (n := (x :: y :: r).length) (by simp)
    simp only [List.length_take]
    omega
  · subst h
    have h1 := half_pos (x :: y :: r).length
    have h2 := half_lt (n := (x :: y :: r).length) (by simp)
    simp only [List.length_drop]
    omega
theorem root_nil : root none node [] = none := by unfold root; rfl
theorem root_one (x : D) : root none node [x] = x := by unfold root; rfl
theorem root_split {l : List D} (h : 2 ≤ l.length) : root none node l = node (root none node (l.take (half l.length))) (root none node (l.drop (half l.length))) := by
  match l, h with
  | x :: y :: r, _ => rw [root]
/-- The digests beside a leaf's way, from the leaf on. -/
def proof (i : Nat) (l : List D) : List D :=
  if h : 2 ≤ l.length then
    if i < half l.length then proof i (l.take (half l.length)) ++ [root none node (l.drop (half l.length))]
    else proof (i - half l.length) (l.drop (half l.length)) ++ [root none node (l.take (half l.length))]
  else []
termination_by l.length
decreasing_by
  · have := half_lt h
    simp only [List.length_take]
    omega
  · have h1 := half_pos l.length
    have h2 := half_lt h
    simp only [List.length_drop]
    omega
theorem proof_left {l : List D} {i : Nat} (h : 2 ≤ l.length) (hi : i < half l.length) : proof none node i l = proof none node i (l.take (half l.length)) ++ [root none node (l.drop (half l.length))] := by
  rw [proof, dif_pos h, if_pos hi]
theorem proof_right {l : List D} {i : Nat} (h : 2 ≤ l.length) (hi : ¬ i < half l.length) : proof none node i l = proof none node (i - half l.length) (l.drop (half l.length)) ++ [root none node (l.take (half l.length))] := by
  rw [proof, dif_pos h, if_neg hi]
theorem proof_few {l : List D} {i : Nat} (h : ¬ 2 ≤ l.length) : proof none node i l = [] := by
  rw [proof, dif_neg h]
/-- The parts beside the way from the root to a leaf: from, to, and whether ahead of it. -/
def parts : Nat → Nat → Nat → Nat → List (Nat × Nat × Bool)
  | 0, _, _, _ => []
  | f + 1, a, b, i =>
    if 1 < b - a then
      let mid := a + half (b - a)
      if mid ≤ i then (a, mid, true) :: parts f mid b i else (mid, b, false) :: parts f a mid i
    else []
theorem parts_proof : ∀ (f a b i : Nat) (l : List D), b - a ≤ f → a ≤ b → b ≤ l.length → a ≤ i → i < b →
    ((parts f a b i).map fun p => root none node ((l.take p.2.1).drop p.1)).reverse = proof none node (i - a) ((l.take b).drop a) := by
  intro f
  induction f with
  | zero => intro a b i l h1 h2 h3 h4 h5; omega
  | succ f ih =>
    intro a b i l h1 h2 h3 h4 h5
    have hlen : ((l.take b).drop a).length = b - a := by rw [List.length_drop, List.length_take]; omega
    unfold parts
    by_cases hb : 1 < b - a
    · have g1 := half_pos (b - a)
      have g2 := half_lt (n := b - a) (by omega)
      rw [if_pos hb]
      simp only
      have e1 : ((l.take b).drop a).take (half (b - a)) = (l.take (a + half (b - a))).drop a := by
        rw [List.take_drop, List.take_take, Nat.min_eq_left (by omega)]
      have e2 : ((l.take b).drop a).drop (half (b - a)) = (l.take b).drop (a + half (b - a)) := by
        rw [List.drop_drop]
      by_cases hm : a + half (b - a) ≤ i
      · rw [if_pos hm, List.map_cons, List.reverse_cons, ih _ _ _ _ (by omega) (by omega) h3 hm h5]
        rw [proof_right none node (by omega : 2 ≤ ((l.take b).drop a).length) (by rw [hlen]; omega), hlen, e1, e2, show i - a - half (b - a) = i - (a + half (b - a)) by omega]
      · rw [if_neg hm, List.map_cons, List.reverse_cons, ih _ _ _ _ (by omega) (by omega) (by omega) h4 (by omega)]
        rw [proof_left none node (by omega : 2 ≤ ((l.take b).drop a).length) (by rw [hlen]; omega), hlen, e1, e2]
    · rw [if_neg hb, proof_few none node (by omega)]
      rfl
/-- Up from a leaf: each time the other one is ahead (true) or behind. -/
def foldUp : List Bool → List D → D → D
  | w :: ws, q :: qs, x => foldUp ws qs (if w then node q x else node x q)
  | _, _, x => x
theorem foldUp_append : ∀ (ws : List Bool) (qs : List D) (x : D) (w : Bool) (q : D), ws.length = qs.length → foldUp node (ws ++ [w]) (qs ++ [q]) x = if w then node q (foldUp node ws qs x) else node (foldUp node ws qs x) q := by
  intro ws
  induction ws with
  | nil => intro qs x w q h; rw [List.length_eq_zero_iff.1 h.symm]; rfl
  | cons w' ws ih =>
    intro qs x w q h
    match qs, h with
    | q' :: qs, h => exact ih qs _ w q (by simpa using h)
theorem parts_length : ∀ (f a b i : Nat) (l : List D), b - a ≤ f → a ≤ b → b ≤ l.length → a ≤ i → i < b → (parts f a b i).length = (proof none node (i - a) ((l.take b).drop a)).length := by
  intro f a b i l h1 h2 h3 h4 h5
  rw [← parts_proof none node f a b i l h1 h2 h3 h4 h5]
  simp
theorem parts_fold : ∀ (f a b i : Nat) (l : List D) (x : D), b - a ≤ f → a ≤ b → b ≤ l.length → a ≤ i → i < b → l[i]? = some x →
    foldUp node ((parts f a b i).map (·.2.2)).reverse (proof none node (i - a) ((l.take b).drop a)) x = root none node ((l.take b).drop a) := by
  intro f
  induction f with
  | zero => intro a b i l x h1 h2 h3 h4 h5; omega
  | succ f ih =>
    intro a b i l x h1 h2 h3 h4 h5 hx
    have hlen : ((l.take b).drop a).length = b - a := by rw [List.length_drop, List.length_take]; omega
    have hpl := parts_length none node (f + 1) a b i l h1 h2 h3 h4 h5
    unfold parts at hpl ⊢
    by_cases hb : 1 < b - a
    · have g1 := half_pos (b - a)
      have g2 := half_lt (n := b - a) (by omega)
      rw [if_pos hb] at hpl ⊢
      simp only at hpl ⊢
      have e1 : ((l.take b).drop a).take (half (b - a)) = (l.take (a + half (b - a))).drop a := by
        rw [List.take_drop, List.take_take, Nat.min_eq_left (by omega)]
      have e2 : ((l.take b).drop a).drop (half (b - a)) = (l.take b).drop (a + half (b - a)) := by
        rw [List.drop_drop]
      rw [root_split none node (by omega : 2 ≤ ((l.take b).drop a).length), hlen, e1, e2]
      by_cases hm : a + half (b - a) ≤ i
      · have hl2 := parts_length none node f (a + half (b - a)) b i l (by omega) (by omega) h3 hm h5
        have hi2 := ih (a + half (b - a)) b i l x (by omega) (by omega) h3 hm h5 hx
        rw [if_pos hm, List.map_cons, List.reverse_cons]
        rw [proof_right none node (by omega : 2 ≤ ((l.take b).drop a).length) (by rw [hlen]; omega), hlen, e1, e2, show i - a - half (b - a) = i - (a + half (b - a)) by omega]
        rw [foldUp_append node _ _ _ _ _ (by rw [List.length_reverse, List.length_map]; exact hl2), hi2]
        rfl
      · have hl2 := parts_length none node f a (a + half (b - a)) i l (by omega) (by omega) (by omega) h4 (by omega)
        have hi2 := ih a (a + half (b - a)) i l x (by omega) (by omega) (by omega) h4 (by omega) hx
        rw [if_neg hm, List.map_cons, List.reverse_cons]
        rw [proof_left none node (by omega : 2 ≤ ((l.take b).drop a).length) (by rw [hlen]; omega), hlen, e1, e2]
        rw [foldUp_append node _ _ _ _ _ (by rw [List.length_reverse, List.length_map]; exact hl2), hi2]
        rfl
    · rw [if_neg hb, proof_few none node (by omega)]
      have e : (l.take b).drop a = [x] := by
        refine List.ext_getElem? fun j => ?_
        rw [List.getElem?_drop, List.getElem?_take]
        have : i = a := by omega
        subst this
        cases j with
        | zero => rw [if_pos (by omega)]; simpa using hx
        | succ j => rw [if_neg (by omega)]; simp
      rw [e, root_one]
      rfl
/-- A proof does not hang on its own leaf. -/
theorem proof_set : ∀ (m : Nat) (l : List D) (i : Nat) (y : D), l.length ≤ m → i < l.length → proof none node i (l.set i y) = proof none node i l := by
  intro m
  induction m with
  | zero => intro l i y h hi; omega
  | succ m ih =>
    intro l i y h hi
    by_cases h2 : 2 ≤ l.length
    · have g1 := half_pos l.length
      have g2 := half_lt (n := l.length) h2
      by_cases hm : i < half l.length
      · rw [proof_left none node (by simpa using h2) (by simpa using hm), proof_left none node h2 hm, List.length_set, List.take_set, List.drop_set, if_pos hm, ih _ _ _ (by rw [List.length_take]; omega) (by rw [List.length_take]; omega)]
      · rw [proof_right none node (by simpa using h2) (by simpa using hm), proof_right none node h2 hm, List.length_set, List.take_set, List.drop_set, if_neg hm, ih _ _ _ (by rw [List.length_drop]; omega) (by rw [List.length_drop]; omega)]
        rw [List.set_eq_of_length_le (by rw [List.length_take]; omega)]
    · rw [proof_few none node (by simpa using h2), proof_few none node h2]
end
end Go.Proofs.YtplcjgpmainbnaaDoor.Mk
set_option linter.unusedVariables false
set_option linter.unusedSimpArgs false
namespace Go.Proofs.YtplcjgpmainbnaaDoor.Mk
section
variable (H : List Nat → List Nat)
def nodeB (x y : List Nat) : List Nat := 1 :: (x ++ y)
def nodeH (x y : List Nat) : List Nat := H (nodeB x y)
def wayB (w : Bool) (x q : List Nat) : List Nat := if w then nodeB q x else nodeB x q
theorem wayB_inj {w : Bool} {x y q r : List Nat} (hx : x.length = y.length) (hq : q.length = r.length) (h : wayB w x q = wayB w y r) : x = y ∧ q = r := by
  unfold wayB nodeB at h
  cases w with
  | false =>
    simp only [Bool.false_eq_true, if_false, List.cons.injEq, true_and] at h
    exact List.append_inj h hx
  | true =>
    simp only [if_true, List.cons.injEq, true_and] at h
    have := List.append_inj h hq
    exact ⟨this.2, this.1⟩
/-- Is there a level at which two rows of bytes that are not the same have one digest? -/
def foundUp : List Bool → List (List Nat) → List (List Nat) → List Nat → List Nat → Bool
  | w :: ws, q :: qs, r :: rs, x, y => (decide (wayB w x q ≠ wayB w y r) && decide (H (wayB w x q) = H (wayB w y r))) || foundUp ws qs rs (H (wayB w x q)) (H (wayB w y r))
  | _, _, _, _, _ => false
theorem foldUp_cons (w : Bool) (ws : List Bool) (q : List Nat) (qs : List (List Nat)) (x : List Nat) : foldUp (nodeH H) (w :: ws) (q :: qs) x = foldUp (nodeH H) ws qs (H (wayB w x q)) := by
  cases w <;> rfl
theorem foundUp_not (hH : ∀ b, (H b).length = 32) : ∀ (ws : List Bool) (qs rs : List (List Nat)) (x y : List Nat), ws.length = qs.length → ws.length = rs.length → x.length = 32 → y.length = 32 → (∀ q ∈ qs, q.length = 32) → (∀ r ∈ rs, r.length = 32) →
    foldUp (nodeH H) ws qs x = foldUp (nodeH H) ws rs y → foundUp H ws qs rs x y = false → x = y ∧ qs = rs := by
  intro ws
  induction ws with
  | nil =>
    intro qs rs x y h1 h2 hx hy hq hr h hf
    have e1 : qs = [] := List.length_eq_zero_iff.1 h1.symm
    have e2 : rs = [] := List.length_eq_zero_iff.1 h2.symm
    subst e1 e2
    exact ⟨h, rfl⟩
  | cons w ws ih =>
    intro qs rs x y h1 h2 hx hy hq hr h hf
    match qs, rs, h1, h2 with
    | q :: qs, r :: rs, h1, h2 =>
      rw [foldUp_cons, foldUp_cons] at h
      unfold foundUp at hf
      rw [Bool.or_eq_false_iff] at hf
      obtain ⟨e1, e2⟩ := ih qs rs _ _ (by simpa using h1) (by simpa using h2) (hH _) (hH _) (fun q' hq' => hq q' (List.mem_cons_of_mem _ hq')) (fun r' hr' => hr r' (List.mem_cons_of_mem _ hr')) h hf.2
      have h3 : wayB w x q = wayB w y r := by
        have h4 := hf.1
        rw [Bool.and_eq_false_iff] at h4
        rcases h4 with h4 | h4
        · simpa using h4
        · rw [decide_eq_false_iff_not] at h4; exact absurd e1 h4
      obtain ⟨e3, e4⟩ := wayB_inj (by rw [hx, hy]) (by rw [hq q (List.mem_cons_self ..), hr r (List.mem_cons_self ..)]) h3
      exact ⟨e3, by rw [e4, e2]⟩
end
end Go.Proofs.YtplcjgpmainbnaaDoor.Mk
set_option linter.unusedVariables false
set_option linter.unusedSimpArgs false
namespace Go.Proofs.YtplcjgpmainbnaaDoor.Mk
/-- Which side, from the root on. -/
def ways : Nat → Nat → Nat → List Bool
  | 0, _, _ => []
  | f + 1, n, i => if 2 ≤ n then (if i < half n then false :: ways f (half n) i else true :: ways f (n - half n) (i - half n)) else []
theorem parts_ways : ∀ (f a b i : Nat), b - a ≤ f → a ≤ b → a ≤ i → (parts f a b i).map (·.2.2) = ways f (b - a) (i - a) := by
  intro f
  induction f with
  | zero => intro a b i h1 h2 h3; rfl
  | succ f ih =>
    intro a b i h1 h2 h3
    unfold parts ways
    by_cases hb : 1 < b - a
    · have g1 := half_pos (b - a)
      have g2 := half_lt (n := b - a) (by omega)
      rw [if_pos hb, if_pos (by omega : 2 ≤ b - a)]
      simp only
      by_cases hm : a + half (b - a) ≤ i
      · rw [if_pos hm, if_neg (by omega), List.map_cons, ih _ _ _ (by omega) (by omega) hm, show b - (a + half (b - a)) = b - a - half (b - a) by omega, show i - (a + half (b - a)) = i - a - half (b - a) by omega]
      · rw [if_neg hm, if_pos (by omega), List.map_cons, ih _ _ _ (by omega) (by omega) h3, show a + half (b - a) - a = half (b - a) by omega]
    · rw [if_neg hb, if_neg (by omega)]
      rfl
theorem ways_more : ∀ (f g n i : Nat), n ≤ f → n ≤ g → ways f n i = ways g n i := by
  intro f
  induction f with
  | zero =>
    intro g n i h1 h2
    cases g with
    | zero => rfl
    | succ g => unfold ways; rw [if_neg (by omega)]
  | succ f ih =>
    intro g n i h1 h2
    cases g with
    | zero => unfold ways; rw [if_neg (by omega)]
    | succ g =>
      unfold ways
      by_cases h : 2 ≤ n
      · have g1 := half_pos n
        have g2 := half_lt h
        rw [if_pos h, if_pos h, ih g (half n) i (by omega) (by omega), ih g (n - half n) (i - half n) (by omega) (by omega)]
      · rw [if_neg h, if_neg h]
section
variable {D : Type} (node : D → D → D)
/-- The reference's Deep and Fold. -/
def deep : Nat → Nat → Nat → Nat
  | 0, _, _ => 0
  | f + 1, n, i => if n < 2 then 0 else if i < half n then 1 + deep f (half n) i else 1 + deep f (n - half n) (i - half n)
theorem deep_ways : ∀ (f n i : Nat), deep f n i = (ways f n i).length := by
  intro f
  induction f with
  | zero => intro n i; rfl
  | succ f ih =>
    intro n i
    unfold deep ways
    by_cases h : n < 2
    · rw [if_pos h, if_neg (by omega)]; rfl
    · rw [if_neg h, if_pos (show 2 ≤ n by omega)]
      by_cases hi : i < half n
      · rw [if_pos hi, if_pos hi, ih, List.length_cons]; omega
      · rw [if_neg hi, if_neg hi, ih, List.length_cons]; omega
def refFold (d : D) : Nat → Nat → Nat → D → List D → D
  | 0, _, _, x, _ => x
  | f + 1, n, i, x, ps =>
    if n < 2 then x
    else if i < half n then node (refFold d f (half n) i x (ps.take (ps.length - 1))) (ps.getD (ps.length - 1) d)
    else node (ps.getD (ps.length - 1) d) (refFold d f (n - half n) (i - half n) x (ps.take (ps.length - 1)))
theorem refFold_up (d : D) : ∀ (f n i : Nat) (x : D) (ps : List D), (ways f n i).length = ps.length → refFold node d f n i x ps = foldUp node (ways f n i).reverse ps x := by
  intro f
  induction f with
  | zero => intro n i x ps h; rfl
  | succ f ih =>
    intro n i x ps h
    unfold refFold
    unfold ways at h ⊢
    by_cases hn : n < 2
    · rw [if_pos hn, if_neg (by omega)]; rfl
    · rw [if_neg hn]
      rw [if_pos (show 2 ≤ n by omega)] at h ⊢
      have hps : 1 ≤ ps.length := by split at h <;> (simp at h; omega)
      have e : ps = ps.take (ps.length - 1) ++ [ps.getD (ps.length - 1) d] := by
        rw [List.getD_eq_getElem?_getD, List.getElem?_eq_getElem (by omega)]
        conv => lhs; rw [← List.take_length (l := ps), show ps.length = ps.length - 1 + 1 by omega, List.take_succ_eq_append_getElem (by omega)]
        rfl
      by_cases hi : i < half n
      · rw [if_pos hi] at h
        rw [if_pos hi, if_pos hi]
        simp only [List.length_cons] at h
        rw [List.reverse_cons]
        conv => rhs; rw [e]
        rw [foldUp_append node _ _ _ _ _ (by rw [List.length_reverse, List.length_take]; omega), ih _ _ _ _ (by rw [List.length_take]; omega)]
        rfl
      · rw [if_neg hi] at h
        rw [if_neg hi, if_neg hi]
        simp only [List.length_cons] at h
        rw [List.reverse_cons]
        conv => rhs; rw [e]
        rw [foldUp_append node _ _ _ _ _ (by rw [List.length_reverse, List.length_take]; omega), ih _ _ _ _ (by rw [List.length_take]; omega)]
        rfl
end
end Go.Proofs.YtplcjgpmainbnaaDoor.Mk
