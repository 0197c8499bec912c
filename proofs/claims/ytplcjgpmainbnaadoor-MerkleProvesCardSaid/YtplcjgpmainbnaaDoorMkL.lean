/- The two tables of sha, out of what a row lists. -/
import Derived.Test.YtplcjgpmainbnaaDoorShW
import Derived.Test.YtplcjgpmainbnaaDoorRows
import Derived.Lib.LaidTab
import Derived.LaidSub
set_option linter.unusedVariables false
namespace Go.Proofs.YtplcjgpmainbnaaDoor.MkW
open Go Sha Bits OwnS ShaW
theorem gFirst : Tryd.prog.globalNamed "cupel/sha.first" = some 0 := by kernel_rfl
theorem gConsts : Tryd.prog.globalNamed "cupel/sha.constants" = some 1 := by kernel_rfl
theorem tFirst : (Tryd.prog.globals[0]?).map (·.type) = some 92 := by kernel_rfl
theorem tConsts : (Tryd.prog.globals[1]?).map (·.type) = some 104 := by kernel_rfl
theorem dFirst : Rows.laid_cupel_sha_first = Lib.tabData (H := Unit) .u32 (first.map num) := by kernel_rfl
theorem dConsts : Rows.laid_cupel_sha_constants = Lib.tabData (H := Unit) .u32 (consts.map num) := by kernel_rfl
theorem range_tab {W : World} {name : String} {g : Nat} {l : List W32} (h : Lib.TabIs Tryd.prog W name .u32 (l.map num)) (hg : Tryd.prog.globalNamed name = some g) : W.rangeAt g 0 (l.map w32) := by
  intro j u hj
  obtain ⟨x, hx, rfl⟩ := List.getElem?_eq_some_iff.1 hj |> fun ⟨h1, h2⟩ => (⟨l[j]'(by simpa using h1), List.getElem?_eq_getElem (by simpa using h1), by rw [← h2]; simp⟩ : ∃ x, l[j]? = some x ∧ u = w32 x)
  have hl : j < (l.map num).length := by simpa using (List.getElem?_eq_some_iff.1 hx).1
  have := h.cell hg j hl
  rw [Nat.zero_add, this]
  simp [List.getD, hx, w32]
theorem glob_of {W : World} (h : laidMetH Tryd.prog [("cupel/sha.first", Rows.laid_cupel_sha_first), ("cupel/sha.constants", Rows.laid_cupel_sha_constants)] W) : Glob W := by
  have h2 := laidMetH.filter (fun x => x.1 == "cupel/sha.constants") h
  rw [show List.filter (fun x : String × DataW Unit => x.1 == "cupel/sha.constants") [("cupel/sha.first", Rows.laid_cupel_sha_first), ("cupel/sha.constants", Rows.laid_cupel_sha_constants)] = [("cupel/sha.constants", Rows.laid_cupel_sha_constants)] from by kernel_rfl] at h2
  have h : laidMet Tryd.prog [("cupel/sha.first", Rows.laid_cupel_sha_first), ("cupel/sha.constants", Rows.laid_cupel_sha_constants)] W := h
  have h2 : laidMet Tryd.prog [("cupel/sha.constants", Rows.laid_cupel_sha_constants)] W := h2
  rw [dFirst] at h
  rw [dConsts] at h2
  exact ⟨range_tab (Lib.tabIs_of_head gFirst tFirst Tryd.underlying92 Tryd.underlying91 (by kernel_rfl) (by kernel_rfl) h) gFirst,
    range_tab (Lib.tabIs_of_head gConsts tConsts Tryd.underlying104 Tryd.underlying91 (by kernel_rfl) (by kernel_rfl) h2) gConsts⟩
def lay (cs : List Value) : Obj → Obj
  | .cells _ t frozen => .cells cs.toArray t frozen
  | o => o
/-- A world for a witness: the settled one, the tables laid. -/
noncomputable def laidWorld (os : Os) : World :=
  { World.holding Tryd.prog os ⟨#[], #[], []⟩ with heap := ((World.holding Tryd.prog os ⟨#[], #[], []⟩).heap.modify 0 (lay (first.map w32))).modify 1 (lay (consts.map w32)) }
end Go.Proofs.YtplcjgpmainbnaaDoor.MkW
