/- Which numbers a part of a right model has, in plain Lean. -/
import Derived.Test.YtfhaebaegkpkhaaWChk
import Derived.Test.YtfhaebaegkpkhaaPlace
import Derived.Test.YtfhaebaegkpkhaaTRow
import Derived.Test.YtfhaebaegkpkhaaMx
set_option linter.unusedVariables false
set_option linter.unusedSimpArgs false
namespace Go.Proofs.Ytfhaebaegkpkhaa.Fil
open Cfg Ten Bpe
theorem placeL_ok (p : P3) : ∀ (l : List Blk) (s : Int), (placeL p l s).2 = 0 → ∃ b ∈ l, hit p b ∧ 0 ≤ p.row ∧ p.row < b.rows
  | [], s, h => by cases h
  | b :: l, s, h => by
    unfold placeL at h
    by_cases hh : hit p b
    · rw [if_pos hh] at h
      by_cases hr : p.row < 0 ∨ b.rows ≤ p.row
      · rw [if_pos hr] at h; cases h
      · exact ⟨b, List.mem_cons_self .., hh, by omega, by omega⟩
    · rw [if_neg hh] at h
      obtain ⟨b', hb, h1⟩ := placeL_ok p l _ h
      exact ⟨b', List.mem_cons_of_mem _ hb, h1⟩
theorem firstErr_all (f : Blk → Int) : ∀ (l : List Blk), firstErr f l = 0 → ∀ b ∈ l, f b = 0
  | [], _, b, hb => by cases hb
  | a :: l, h, b, hb => by
    unfold firstErr at h
    by_cases h0 : f a = 0
    · rw [if_pos h0] at h
      rcases List.mem_cons.1 hb with rfl | hb
      · exact h0
      · exact firstErr_all f l h b hb
    · rw [if_neg h0] at h
      exact absurd h h0
theorem err_zero {M : Mod} (h : M.err = 0) : M.c.chk = 0 ∧ bpeErr0 M.al = 0 ∧ (M.al.length : Int) = M.c.v ∧ (M.ls.length : Int) = M.c.l ∧ ∀ b ∈ blks M.c, M.partErr b = 0 := by
  unfold Mod.err at h
  by_cases h1 : M.c.chk = 0
  · rw [if_neg (by simpa using h1)] at h
    by_cases h2 : bpeErr0 M.al = 0
    · rw [if_neg (by simpa using h2)] at h
      by_cases h3 : (M.al.length : Int) ≠ M.c.v ∨ (M.ls.length : Int) ≠ M.c.l
      · rw [if_pos h3] at h; cases h
      · rw [if_neg h3] at h
        exact ⟨h1, h2, by omega, by omega, firstErr_all _ _ h⟩
    · rw [if_pos h2] at h; exact absurd h h2
  · rw [if_pos h1] at h; exact absurd h h1
/-- The numbers of a place. -/
def partRow (M : Mod) (p : P3) : List Int := if p.kind = 2 ∨ p.kind = 7 ∨ p.kind = 11 then M.vec p.kind p.layer else rowOf (M.mat p.kind p.layer).cols.toNat p.row.toNat (M.mat p.kind p.layer).l
theorem part_cases {M : Mod} (he : M.err = 0) {p : P3} (hp : (M.c.place p).2 = 0) :
    ((p.kind = 2 ∨ p.kind = 7 ∨ p.kind = 11) ∧ (p.kind ≠ 11 → 0 ≤ p.layer ∧ p.layer < M.ls.length) ∧ vecErr (M.vec p.kind p.layer) = 0) ∨
    ((p.kind = 1 ∨ p.kind = 12 ∨ (isMat p.kind ∧ 0 ≤ p.layer ∧ p.layer < M.ls.length)) ∧ matErr (M.mat p.kind p.layer) = 0 ∧ 0 ≤ p.row ∧ p.row < (M.mat p.kind p.layer).rows) := by
  obtain ⟨h1, h2, h3, h4, h5⟩ := err_zero he
  unfold C6.place at hp
  rw [if_pos h1] at hp
  obtain ⟨b, hb, ⟨hk, hl⟩, hr0, hr1⟩ := placeL_ok p _ _ hp
  have hbe := h5 b hb
  have hc := (bounds_of h1).2.2.2.1
  have hpt := part_of h4 (by omega) b hb
  unfold Mod.partErr at hbe
  rcases hpt with ⟨hv, hkk, hll⟩ | ⟨hv, hkk⟩
  · rw [if_pos hv] at hbe
    left
    rw [← hk, ← hl]
    refine ⟨hkk, hll, ?_⟩
    split at hbe
    · cases hbe
    · exact hbe
  · rw [if_neg (by rw [hv]; decide)] at hbe
    right
    rw [← hk, ← hl]
    by_cases hn : (M.mat b.kind b.layer).rows ≠ b.rows ∨ (M.mat b.kind b.layer).cols ≠ b.cols
    · rw [if_pos hn] at hbe; cases hbe
    · rw [if_neg hn] at hbe
      refine ⟨?_, hbe, hr0, by omega⟩
      rcases hkk with hkk | hkk | ⟨⟨j, hj, hkk⟩, hll⟩
      · exact .inl hkk
      · exact .inr (.inl hkk)
      · refine .inr (.inr ⟨?_, hll⟩)
        rw [hkk]
        have : ∀ j ∈ insIdx, isMat (insKind j) := by unfold isMat; decide
        exact this j hj
end Go.Proofs.Ytfhaebaegkpkhaa.Fil
