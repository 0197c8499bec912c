/- A tree of digests: two ways to one root: plain. -/
import Derived.Test.YtplcjgpmainbnaaDoorMk
set_option linter.unusedVariables false
set_option linter.unusedSimpArgs false
namespace Go.Proofs.YtplcjgpmainbnaaDoor.Mk
section
variable (H : List Nat → List Nat)
def nodeB (x y : List Nat) : List Nat := 1 :: (x ++ y)
def nodeH (x y : List Nat) : List Nat := H (nodeB x y)
def wayB (w : Bool) (x q : List Nat) : List Nat := if w then nodeB q x else nodeB x q
theorem wayB_inj {w : Bool} {x y q r : List Nat} (hx : x.length = y.length) (hq : q.length = r.length) (h : wayB w x q = wayB w y r) : x = y ∧ q = r := by
  unfold wayB nodeB at h
  cases w with
  | false =>
    simp only [Bool.false_eq_true, if_false, List.cons.injEq, true_and] at h
    exact List.append_inj h hx
  | true =>
    simp only [if_true, List.cons.injEq, true_and] at h
    have := List.append_inj h hq
    exact ⟨this.2, this.1⟩
/-- Is there a level at which two rows of bytes that are not the same have one digest? -/
def foundUp : List Bool → List (List Nat) → List (List Nat) → List Nat → List Nat → Bool
  | w :: ws, q :: qs, r :: rs, x, y => (decide (wayB w x q ≠ wayB w y r) && decide (H (wayB w x q) = H (wayB w y r))) || foundUp ws qs rs (H (wayB w x q)) (H (wayB w y r))
  | _, _, _, _, _ => false
theorem foldUp_cons (w : Bool) (ws : List Bool) (q : List Nat) (qs : List (List Nat)) (x : List Nat) : foldUp (nodeH H) (w :: ws) (q :: qs) x = foldUp (nodeH H) ws qs (H (wayB w x q)) := by
  cases w <;> rfl
theorem foundUp_not (hH : ∀ b, (H b).length = 32) : ∀ (ws : List Bool) (qs rs : List (List Nat)) (x y : List Nat), ws.length = qs.length → ws.length = rs.length → x.length = 32 → y.length = 32 → (∀ q ∈ qs, q.length = 32) → (∀ r ∈ rs, r.length = 32) →
    foldUp (nodeH H) ws qs x = foldUp (nodeH H) ws rs y → foundUp H ws qs rs x y = false → x = y ∧ qs = rs := by
  intro ws
  induction ws with
  | nil =>
    intro qs rs x y h1 h2 hx hy hq hr h hf
    have e1 : qs = [] := List.length_eq_zero_iff.1 h1.symm
    have e2 : rs = [] := List.length_eq_zero_iff.1 h2.symm
    subst e1 e2
    exact ⟨h, rfl⟩
  | cons w ws ih =>
    intro qs rs x y h1 h2 hx hy hq hr h hf
    match qs, rs, h1, h2 with
    | q :: qs, r :: rs, h1, h2 =>
      rw [foldUp_cons, foldUp_cons] at h
      unfold foundUp at hf
      rw [Bool.or_eq_false_iff] at hf
      obtain ⟨e1, e2⟩ := ih qs rs _ _ (by simpa using h1) (by simpa using h2) (hH _) (hH _) (fun q' hq' => hq q' (List.mem_cons_of_mem _ hq')) (fun r' hr' => hr r' (List.mem_cons_of_mem _ hr')) h hf.2
      have h3 : wayB w x q = wayB w y r := by
        have h4 := hf.1
        rw [Bool.and_eq_false_iff] at h4
        rcases h4 with h4 | h4
        · simpa using h4
        · rw [decide_eq_false_iff_not] at h4; exact absurd e1 h4
      obtain ⟨e3, e4⟩ := wayB_inj (by rw [hx, hy]) (by rw [hq q (List.mem_cons_self ..), hr r (List.mem_cons_self ..)]) h3
      exact ⟨e3, by rw [e4, e2]⟩
end
end Go.Proofs.YtplcjgpmainbnaaDoor.Mk
