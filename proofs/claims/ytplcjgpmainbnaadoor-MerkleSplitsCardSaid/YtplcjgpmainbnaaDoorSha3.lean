/- SHA-256: piece by piece, and all at once: plain. -/
import Derived.Test.YtplcjgpmainbnaaDoorSha2
set_option linter.unusedVariables false
set_option linter.unusedSimpArgs false
namespace Go.Proofs.YtplcjgpmainbnaaDoor.Sha
theorem takeAll_more : ∀ (n m : Nat) (s : St) (l : List Nat), l.length / 64 ≤ n → l.length / 64 ≤ m → takeAll n s l = takeAll m s l := by
  intro n
  induction n with
  | zero =>
    intro m s l h1 h2
    have hl : l.length < 64 := by omega
    cases m with
    | zero => rfl
    | succ m => unfold takeAll; rw [if_pos hl]
  | succ n ih =>
    intro m s l h1 h2
    by_cases hl : l.length < 64
    · cases m with
      | zero => unfold takeAll; rw [if_pos hl]
      | succ m => unfold takeAll; rw [if_pos hl, if_pos hl]
    · cases m with
      | zero => omega
      | succ m =>
        unfold takeAll
        rw [if_neg hl, if_neg hl]
        have : (l.drop 64).length = l.length - 64 := by simp
        exact ih m _ _ (by omega) (by omega)
theorem takeAll_append : ∀ (n : Nat) (s : St) (l m : List Nat) (k : Nat), l.length / 64 ≤ n → (l ++ m).length / 64 ≤ k → takeAll k s (l ++ m) = takeAll k (takeAll n s l).1 ((takeAll n s l).2 ++ m) := by
  intro n
  induction n with
  | zero => intro s l m k h1 h2; rfl
  | succ n ih =>
    intro s l m k h1 h2
    by_cases hl : l.length < 64
    · have e : takeAll (n + 1) s l = (s, l) := by rw [takeAll, if_pos hl]
      rw [e]
    · have e : takeAll (n + 1) s l = takeAll n (turn s (l.take 64)) (l.drop 64) := by
        rw [takeAll, if_neg hl]
      rw [e]
      have hll : (l ++ m).length = l.length + m.length := by simp
      cases k with
      | zero => omega
      | succ k =>
        have hd : (l.drop 64).length = l.length - 64 := by simp
        have e2 : takeAll (k + 1) s (l ++ m) = takeAll k (turn s (l.take 64)) (l.drop 64 ++ m) := by
          rw [takeAll, if_neg (by omega), List.take_append_of_le_length (by omega), List.drop_append_of_le_length (by omega)]
        have hdm : (l.drop 64 ++ m).length = l.length - 64 + m.length := by rw [List.length_append, hd]
        rw [e2, takeAll_more k (k + 1) _ _ (by omega) (by omega)]
        exact ih _ _ _ _ (by omega) (by omega)
theorem takeAll_length : ∀ (n : Nat) (s : St) (l : List Nat), l.length / 64 ≤ n → (takeAll n s l).2.length = l.length % 64 := by
  intro n
  induction n with
  | zero => intro s l h; show l.length = _; omega
  | succ n ih =>
    intro s l h
    unfold takeAll
    by_cases hl : l.length < 64
    · rw [if_pos hl]; show l.length = _; omega
    · rw [if_neg hl]
      have hd : (l.drop 64).length = l.length - 64 := by simp
      rw [ih _ _ (by omega), hd]
      omega
theorem write_length (h : St × List Nat) (b : List Nat) : (write h b).2.length = (h.2.length + b.length) % 64 := by
  unfold write
  rw [takeAll_length _ _ _ (Nat.le_refl _), List.length_append]
theorem write_write (h : St × List Nat) (a b : List Nat) : write (write h a) b = write h (a ++ b) := by
  unfold write
  have h1 := takeAll_append ((h.2 ++ a).length / 64) h.1 (h.2 ++ a) b ((h.2 ++ (a ++ b)).length / 64) (Nat.le_refl _) (by simp)
  rw [List.append_assoc] at h1
  rw [h1]
  have h2 := takeAll_length ((h.2 ++ a).length / 64) h.1 (h.2 ++ a) (Nat.le_refl _)
  refine takeAll_more _ _ _ _ (Nat.le_refl _) ?_
  rw [List.length_append, h2]
  simp only [List.length_append]
  omega
/-- Bytes, filled up. -/
def filled (b : List Nat) : List Nat := b ++ (128 :: List.replicate (noughts (b.length % 64)) 0 ++ eight (8 * b.length % 2 ^ 64))
theorem eight_length (n : Nat) : (eight n).length = 8 := by simp [eight]
theorem filled_length (b : List Nat) : (filled b).length % 64 = 0 := by
  unfold filled
  rw [List.length_append, List.length_append, List.length_cons, List.length_replicate, eight_length]
  unfold noughts
  omega
theorem sum_filled (b : List Nat) : sum b = out (takeAll ((filled b).length / 64) st0 (filled b)).1 := by
  unfold sum
  simp only
  rw [write_write, write_write]
  have h1 := write_length (st0, []) b
  rw [h1]
  have e : ([] : List Nat).length + b.length = b.length := by simp
  rw [show ((st0, ([] : List Nat)) : St × List Nat).2.length + b.length = b.length by simp]
  rfl
/-- The state behind k blocks. -/
theorem takeAll_step (k : Nat) (s : St) (l : List Nat) (h : 64 * (k + 1) ≤ l.length) : (takeAll (k + 1) s l).1 = turn (takeAll k s l).1 ((l.drop (64 * k)).take 64) ∧ (takeAll k s l).2 = l.drop (64 * k) := by
  induction k generalizing s l with
  | zero =>
    unfold takeAll
    rw [if_neg (by omega)]
    exact ⟨rfl, rfl⟩
  | succ k ih =>
    have hd : (l.drop 64).length = l.length - 64 := by simp
    obtain ⟨h1, h2⟩ := ih (turn s (l.take 64)) (l.drop 64) (by omega)
    have e1 : takeAll (k + 1 + 1) s l = takeAll (k + 1) (turn s (l.take 64)) (l.drop 64) := by rw [takeAll, if_neg (by omega)]
    have e2 : takeAll (k + 1) s l = takeAll k (turn s (l.take 64)) (l.drop 64) := by rw [takeAll, if_neg (by omega)]
    rw [e1, e2, h1, h2, List.drop_drop, show 64 + 64 * k = 64 * (k + 1) by omega]
    exact ⟨rfl, rfl⟩
end Go.Proofs.YtplcjgpmainbnaaDoor.Sha
