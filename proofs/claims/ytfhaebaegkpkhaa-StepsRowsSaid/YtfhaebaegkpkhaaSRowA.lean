/- steps.Row: what it answers at whatever part of a right model. -/
import Derived.Test.YtfhaebaegkpkhaaSRow3
import Derived.Test.YtfhaebaegkpkhaaSRow4
set_option linter.unusedVariables false
set_option linter.unusedSimpArgs false
namespace Go.Proofs.Ytfhaebaegkpkhaa.Fil
open Go.RowKit OwnS Byt QTail Cfg Ten Bpe
theorem srow_some (W : World) (M : Mod) (h : ModH) (H : List (Lay × LayH)) (x : ModSees W M h H) (ha : 1 ≤ M.al.length ∧ M.al.length ≤ 512) (he : M.err = 0) (p : P3) (hrow : -9223372036854775808 ≤ p.row ∧ p.row ≤ 9223372036854775807) (hp : (M.c.place p).2 = 0) :
    Calls Try.prog 21 #[.agg (modC M h).toArray, .agg #[.int .i64 p.kind, .int .i64 p.layer, .int .i64 p.row]] W (RowPost W (partRow M p)) := by
  obtain ⟨kind, layer, row⟩ := p
  unfold partRow
  simp only at hrow hp ⊢
  rcases part_cases he hp with ⟨hk, -⟩ | ⟨hk, -⟩
  · simp only at hk
    rw [if_pos hk]
    rcases hk with rfl | rfl | rfl
    · exact srow_n1 W M h H x ha he layer row hrow hp
    · exact srow_n2 W M h H x ha he layer row hrow hp
    · exact srow_norm W M h H x ha he layer row hrow hp
  · simp only at hk
    rw [if_neg (by unfold isMat at hk; omega)]
    rcases hk with rfl | rfl | ⟨hm, -⟩
    · exact srow_em W M h H x ha he layer row hrow hp
    · exact srow_out W M h H x ha he layer row hrow hp
    · rw [mat_layM M kind layer (by unfold isMat at hm; omega) (by unfold isMat at hm; omega)]
      exact srow_mat W M h H x ha he kind layer row hm hrow hp
end Go.Proofs.Ytfhaebaegkpkhaa.Fil
