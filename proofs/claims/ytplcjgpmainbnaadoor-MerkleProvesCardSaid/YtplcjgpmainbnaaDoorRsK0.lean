/- The reference's sha: what the loops of block keep. -/
import Derived.Test.YtplcjgpmainbnaaDoorRsC
import Derived.Test.YtplcjgpmainbnaaDoorShT0
set_option linter.unusedVariables false
set_option linter.unusedSimpArgs false
namespace Go.Proofs.YtplcjgpmainbnaaDoor.RsW
open Go.RowKit Sha Bits OwnS ShaW
def i64W (x : W32) : Value := .int .i64 (num x)
def z64 : Value := .int .i64 0
def stI (s : St) : List Value := s.list.map i64W
def icells (b : List Nat) (t : Nat) : List Value := (wordsTo b t).map i64W ++ List.replicate (64 - t) z64
structure R1 (W w : World) (s : St) (b : List Nat) (t : Nat) : Prop where
  below : Below W.heap.size W w
  size : W.heap.size + 3 ≤ w.heap.size
  st : w.heap[W.heap.size]? = some (.cells (s.list.map i64W).toArray 85 (0, 0))
  res : w.heap[W.heap.size + 1]? = some (.cells (List.replicate 8 z64).toArray 85 (0, 0))
  ws : w.heap[W.heap.size + 2]? = some (.cells (icells b t).toArray 98 (0, 0))
theorem R1.byte {W w : World} {s : St} {b : List Nat} {t g o j x : Nat} (h : R1 W w s b t) (hc : ∀ (j x : Nat), b[j]? = some x → W.cell? ⟨g, o + j, none⟩ = some (.int .u8 (x : Int))) (hx : b[j]? = some x) : w.cell? ⟨g, o + j, none⟩ = some (.int .u8 (x : Int)) := by
  have := hc j x hx
  exact (World.cell?_of_block (a := ⟨g, o + j, none⟩) (h.below.block g (block_lt_of_cell this))).trans this
theorem icells_length (b : List Nat) (t : Nat) (h : t ≤ 64) : (icells b t).length = 64 := by simp [icells, wordsTo_length]; omega
theorem R1.cell {W w : World} {s : St} {b : List Nat} {t : Nat} (h : R1 W w s b t) (ht : t < 64) : w.cell? ⟨W.heap.size + 2, t, none⟩ = some z64 ∧ w.frozen? ⟨W.heap.size + 2, t, none⟩ = false := by
  refine ⟨?_, frozen_of_row _ _ _ _ _ h.ws⟩
  rw [cell_of_row _ _ _ _ _ _ h.ws]
  rw [List.getElem?_toArray, icells, List.getElem?_append_right (by simp [wordsTo_length]), List.getElem?_replicate, if_pos (by simp [wordsTo_length]; omega)]
theorem icells_set (b : List Nat) (t : Nat) (h : t < 64) : (icells b t).set t (i64W (nextW b (wordsTo b t) t)) = icells b (t + 1) := by
  unfold icells
  rw [List.set_append_right _ _ (by simp [wordsTo_length])]
  simp only [List.length_map, wordsTo_length, Nat.sub_self]
  rw [show 64 - t = (64 - (t + 1)) + 1 by omega, List.replicate_succ, List.set_cons_zero]
  simp [wordsTo]
theorem R1.put {W w : World} {s : St} {b : List Nat} {t : Nat} (h : R1 W w s b t) (ht : t < 64) : R1 W (w.setCell ⟨W.heap.size + 2, t, none⟩ (i64W (nextW b (wordsTo b t) t))) s b (t + 1) := by
  refine ⟨h.below.setCell (by simp) _, by simpa using h.size, ?_, ?_, ?_⟩
  · rw [heap_setCell_other _ _ _ _ (by simp)]; exact h.st
  · rw [heap_setCell_other _ _ _ _ (by simp)]; exact h.res
  · rw [heap_setCell_same _ _ _ _ _ _ h.ws, List.setIfInBounds_toArray, icells_set b t ht]
theorem R1.keep {W w w' : World} {s : St} {b : List Nat} {t : Nat} (h : R1 W w s b t) (hb : Below w.heap.size w w') : R1 W w' s b t := by
  have hs := h.size
  exact ⟨h.below.trans (hb.mono (by omega)), by have := hb.size; omega, (hb.block _ (by omega)).trans h.st, (hb.block _ (by omega)).trans h.res, (hb.block _ (by omega)).trans h.ws⟩
theorem R1.word {W w : World} {s : St} {b : List Nat} {t j : Nat} (h : R1 W w s b t) (hj : j < t) : w.cell? ⟨W.heap.size + 2, j, none⟩ = some (.int .i64 (num ((wordsTo b t).getD j 0))) := by
  rw [cell_of_row _ _ _ _ _ _ h.ws, List.getElem?_toArray, icells, List.getElem?_append_left (by simpa [wordsTo_length] using hj), List.getElem?_map, List.getD_eq_getElem?_getD, List.getElem?_eq_getElem (by rw [wordsTo_length]; exact hj)]
  rfl
theorem i64_cells {w : World} {g : Nat} {s : St} {T : TypeId} (h : w.heap[g]? = some (.cells (s.list.map i64W).toArray T (0, 0))) :
    w.cell? ⟨g, 0, none⟩ = some (.int .i64 (num s.a)) ∧ w.cell? ⟨g, 1, none⟩ = some (.int .i64 (num s.b)) ∧ w.cell? ⟨g, 2, none⟩ = some (.int .i64 (num s.c)) ∧ w.cell? ⟨g, 3, none⟩ = some (.int .i64 (num s.d)) ∧
    w.cell? ⟨g, 4, none⟩ = some (.int .i64 (num s.e)) ∧ w.cell? ⟨g, 5, none⟩ = some (.int .i64 (num s.f)) ∧ w.cell? ⟨g, 6, none⟩ = some (.int .i64 (num s.g)) ∧ w.cell? ⟨g, 7, none⟩ = some (.int .i64 (num s.h)) := by
  refine ⟨?_, ?_, ?_, ?_, ?_, ?_, ?_, ?_⟩ <;> (rw [cell_of_row _ _ _ _ _ _ h]; rfl)
/-- The world in the third loop: K the constants' block, B the working state's. -/
structure R2 (W w : World) (s : St) (b : List Nat) (K B : Nat) (x : List W32) : Prop where
  below : Below W.heap.size W w
  hK : W.heap.size + 3 ≤ K
  hB : K < B
  size : B < w.heap.size
  st : w.heap[W.heap.size]? = some (.cells (s.list.map i64W).toArray 85 (0, 0))
  res : w.heap[W.heap.size + 1]? = some (.cells (List.replicate 8 z64).toArray 85 (0, 0))
  ws : w.heap[W.heap.size + 2]? = some (.cells (icells b 64).toArray 98 (0, 0))
  ks : w.heap[K]? = some (.cells (intsV kN).toArray 98 (0, 0))
  cur : w.heap[B]? = some (.cells (x.map i64W).toArray 85 (0, 0))
theorem R2.word {W w : World} {s : St} {b : List Nat} {K B : Nat} {x : List W32} (h : R2 W w s b K B x) {j : Nat} (hj : j < 64) : w.cell? ⟨W.heap.size + 2, j, none⟩ = some (.int .i64 (num ((wordsTo b 64).getD j 0))) := by
  rw [cell_of_row _ _ _ _ _ _ h.ws, List.getElem?_toArray, icells, List.getElem?_append_left (by simpa [wordsTo_length] using hj), List.getElem?_map, List.getD_eq_getElem?_getD, List.getElem?_eq_getElem (by rw [wordsTo_length]; exact hj)]
  rfl
theorem R2.const {W w : World} {s : St} {b : List Nat} {K B : Nat} {x : List W32} (h : R2 W w s b K B x) {j : Nat} (hj : j < 64) : w.cell? ⟨K, j, none⟩ = some (.int .i64 (num (consts.getD j 0))) := by
  rw [cell_of_row _ _ _ _ _ _ h.ks, List.getElem?_toArray, intsV, kN, List.map_map, List.getElem?_map, List.getD_eq_getElem?_getD, List.getElem?_eq_getElem (show j < consts.length from hj)]
  rfl
theorem R2.keep {W w w' : World} {s : St} {b : List Nat} {K B : Nat} {x : List W32} (h : R2 W w s b K B x) (hb : Below w.heap.size w w') : R2 W w' s b K B x := by
  have hs := h.size
  have hK := h.hK
  have hB := h.hB
  exact ⟨h.below.trans (hb.mono (by omega)), hK, hB, by have := hb.size; omega, (hb.block _ (by omega)).trans h.st, (hb.block _ (by omega)).trans h.res, (hb.block _ (by omega)).trans h.ws, (hb.block _ (by omega)).trans h.ks, (hb.block _ (by omega)).trans h.cur⟩
theorem R2.curAt {W w : World} {s : St} {b : List Nat} {K B : Nat} {x : List W32} (h : R2 W w s b K B x) {j : Nat} {v : W32} (hj : x[j]? = some v) : w.cell? ⟨B, j, none⟩ = some (.int .i64 (num v)) := by
  rw [cell_of_row _ _ _ _ _ _ h.cur, List.getElem?_toArray, List.getElem?_map, hj]
  rfl
theorem R2.stAt {W w : World} {s : St} {b : List Nat} {K B : Nat} {x : List W32} (h : R2 W w s b K B x) {j : Nat} {v : W32} (hj : s.list[j]? = some v) : w.cell? ⟨W.heap.size, j, none⟩ = some (.int .i64 (num v)) := by
  rw [cell_of_row _ _ _ _ _ _ h.st, List.getElem?_toArray, List.getElem?_map, hj]
  rfl
theorem R2.put {W w : World} {s : St} {b : List Nat} {K B : Nat} {x : List W32} (h : R2 W w s b K B x) (j : Nat) (v : W32) : R2 W (w.setCell ⟨B, j, none⟩ (.int .i64 (num v))) s b K B (x.set j v) := by
  have hB := h.hB
  have hK := h.hK
  refine ⟨h.below.setCell (by simp; omega) _, hK, hB, by simpa using h.size, ?_, ?_, ?_, ?_, ?_⟩
  · rw [heap_setCell_other _ _ _ _ (by simp; omega)]; exact h.st
  · rw [heap_setCell_other _ _ _ _ (by simp; omega)]; exact h.res
  · rw [heap_setCell_other _ _ _ _ (by simp; omega)]; exact h.ws
  · rw [heap_setCell_other _ _ _ _ (by simp; omega)]; exact h.ks
  · rw [heap_setCell_same _ _ _ _ _ _ h.cur, List.setIfInBounds_toArray, List.map_set]; rfl
theorem R2.put8 {W w : World} {s : St} {b : List Nat} {K B : Nat} {x : St} (h : R2 W w s b K B x.list) (y : St) : R2 W ((((((((w.setCell ⟨B, 0, none⟩ (.int .i64 (num y.a))).setCell ⟨B, 1, none⟩ (.int .i64 (num y.b))).setCell ⟨B, 2, none⟩ (.int .i64 (num y.c))).setCell ⟨B, 3, none⟩ (.int .i64 (num y.d))).setCell ⟨B, 4, none⟩ (.int .i64 (num y.e))).setCell ⟨B, 5, none⟩ (.int .i64 (num y.f))).setCell ⟨B, 6, none⟩ (.int .i64 (num y.g))).setCell ⟨B, 7, none⟩ (.int .i64 (num y.h))) s b K B y.list :=
  (((((((h.put 0 y.a).put 1 y.b).put 2 y.c).put 3 y.d).put 4 y.e).put 5 y.f).put 6 y.g).put 7 y.h
theorem iset_back {w : World} {g : Nat} {T : TypeId} {l : List W32} (h : w.heap[g]? = some (.cells (l.map i64W).toArray T (0, 0))) (j : Nat) (v : W32) :
    (w.setCell ⟨g, j, none⟩ (.int .i64 (num v))).heap[g]? = some (.cells ((l.set j v).map i64W).toArray T (0, 0)) := by
  rw [heap_setCell_same _ _ _ _ _ _ h, List.setIfInBounds_toArray, List.map_set]; rfl
theorem R2.res8 {W w : World} {s : St} {b : List Nat} {K B : Nat} {x : List W32} (h : R2 W w s b K B x) (y : St) :
    ((((((((w.setCell ⟨W.heap.size + 1, 0, none⟩ (.int .i64 (num y.a))).setCell ⟨W.heap.size + 1, 1, none⟩ (.int .i64 (num y.b))).setCell ⟨W.heap.size + 1, 2, none⟩ (.int .i64 (num y.c))).setCell ⟨W.heap.size + 1, 3, none⟩ (.int .i64 (num y.d))).setCell ⟨W.heap.size + 1, 4, none⟩ (.int .i64 (num y.e))).setCell ⟨W.heap.size + 1, 5, none⟩ (.int .i64 (num y.f))).setCell ⟨W.heap.size + 1, 6, none⟩ (.int .i64 (num y.g))).setCell ⟨W.heap.size + 1, 7, none⟩ (.int .i64 (num y.h))).heap[W.heap.size + 1]? = some (.cells (y.list.map i64W).toArray 85 (0, 0)) ∧
    Below W.heap.size W ((((((((w.setCell ⟨W.heap.size + 1, 0, none⟩ (.int .i64 (num y.a))).setCell ⟨W.heap.size + 1, 1, none⟩ (.int .i64 (num y.b))).setCell ⟨W.heap.size + 1, 2, none⟩ (.int .i64 (num y.c))).setCell ⟨W.heap.size + 1, 3, none⟩ (.int .i64 (num y.d))).setCell ⟨W.heap.size + 1, 4, none⟩ (.int .i64 (num y.e))).setCell ⟨W.heap.size + 1, 5, none⟩ (.int .i64 (num y.f))).setCell ⟨W.heap.size + 1, 6, none⟩ (.int .i64 (num y.g))).setCell ⟨W.heap.size + 1, 7, none⟩ (.int .i64 (num y.h))) := by
  have h0 : w.heap[W.heap.size + 1]? = some (.cells (([0, 0, 0, 0, 0, 0, 0, 0] : List W32).map i64W).toArray 85 (0, 0)) := h.res
  have g : W.heap.size ≤ W.heap.size + 1 := by omega
  exact ⟨iset_back (iset_back (iset_back (iset_back (iset_back (iset_back (iset_back (iset_back h0 0 y.a) 1 y.b) 2 y.c) 3 y.d) 4 y.e) 5 y.f) 6 y.g) 7 y.h,
    (((((((h.below.setCell g _).setCell g _).setCell g _).setCell g _).setCell g _).setCell g _).setCell g _).setCell g _⟩
theorem izero_cells {w : World} {g : Nat} {T : TypeId} (h : w.heap[g]? = some (.cells (List.replicate 8 z64).toArray T (0, 0))) :
    w.cell? ⟨g, 0, none⟩ = some z64 ∧ w.cell? ⟨g, 1, none⟩ = some z64 ∧ w.cell? ⟨g, 2, none⟩ = some z64 ∧ w.cell? ⟨g, 3, none⟩ = some z64 ∧
    w.cell? ⟨g, 4, none⟩ = some z64 ∧ w.cell? ⟨g, 5, none⟩ = some z64 ∧ w.cell? ⟨g, 6, none⟩ = some z64 ∧ w.cell? ⟨g, 7, none⟩ = some z64 := by
  refine ⟨?_, ?_, ?_, ?_, ?_, ?_, ?_, ?_⟩ <;> (rw [cell_of_row _ _ _ _ _ _ h]; rfl)
theorem row_frozen8 {w : World} {g : Nat} {cs : Array Value} {T : TypeId} (h : w.heap[g]? = some (.cells cs T (0, 0))) :
    w.frozen? ⟨g, 0, none⟩ = false ∧ w.frozen? ⟨g, 1, none⟩ = false ∧ w.frozen? ⟨g, 2, none⟩ = false ∧ w.frozen? ⟨g, 3, none⟩ = false ∧
    w.frozen? ⟨g, 4, none⟩ = false ∧ w.frozen? ⟨g, 5, none⟩ = false ∧ w.frozen? ⟨g, 6, none⟩ = false ∧ w.frozen? ⟨g, 7, none⟩ = false := by
  refine ⟨?_, ?_, ?_, ?_, ?_, ?_, ?_, ?_⟩ <;> exact frozen_of_row _ _ _ _ _ h
theorem word_num {b : List Nat} {t x0 x1 x2 x3 : Nat} (h0 : b[4 * t]? = some x0) (h1 : b[4 * t + 1]? = some x1) (h2 : b[4 * t + 2]? = some x2) (h3 : b[4 * t + 3]? = some x3)
    (l0 : x0 < 256) (l1 : x1 < 256) (l2 : x2 < 256) (l3 : x3 < 256) : (x0 : Int) * 16777216 + (x1 : Int) * 65536 + (x2 : Int) * 256 + (x3 : Int) = num (word b t) := by
  have e0 : b.getD (4 * t) 0 = x0 := by rw [List.getD_eq_getElem?_getD, h0]; rfl
  have e1 : b.getD (4 * t + 1) 0 = x1 := by rw [List.getD_eq_getElem?_getD, h1]; rfl
  have e2 : b.getD (4 * t + 2) 0 = x2 := by rw [List.getD_eq_getElem?_getD, h2]; rfl
  have e3 : b.getD (4 * t + 3) 0 = x3 := by rw [List.getD_eq_getElem?_getD, h3]; rfl
  have := word_ref b t (by omega) (by omega) (by omega) (by omega)
  rw [e0, e1, e2, e3] at this
  unfold num
  rw [this]
  omega
end Go.Proofs.YtplcjgpmainbnaaDoor.RsW
