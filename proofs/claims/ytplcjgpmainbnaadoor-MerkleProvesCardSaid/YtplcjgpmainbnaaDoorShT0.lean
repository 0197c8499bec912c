/- sha.turn: what its loops keep. -/
import Derived.Test.YtplcjgpmainbnaaDoorShR
import Derived.StillTailTactics
import Derived.Deep.DeepCutAuto
import Derived.Test.YtplcjgpmainbnaaDoorQTail
import Derived.Laws.Rows
import Derived.Laws.Tables
import Derived.Below
import Derived.Deep.MidRow
set_option linter.unusedVariables false
set_option linter.unusedSimpArgs false
namespace Go.Proofs.YtplcjgpmainbnaaDoor.ShaW
open Go.RowKit Sha Bits
attribute [local go_sem ↓] Kit.execOp_call_slot
attribute [local go_sem] Kit.callSlot_func
def z32 : Value := .int .u32 0
/-- The row of words behind t of them. -/
def wcells (b : List Nat) (t : Nat) : List Value := (wordsTo b t).map w32 ++ List.replicate (64 - t) z32
/-- The world in the first loop. -/
structure T1 (W w : World) (s : St) (b : List Nat) (t : Nat) : Prop where
  below : Below W.heap.size W w
  size : w.heap.size = W.heap.size + 3
  st : w.heap[W.heap.size]? = some (.cells (s.list.map w32).toArray 92 (0, 0))
  res : w.heap[W.heap.size + 1]? = some (.cells (List.replicate 8 z32).toArray 92 (0, 0))
  ws : w.heap[W.heap.size + 2]? = some (.cells (wcells b t).toArray 104 (0, 0))
theorem T1.byte {W w : World} {s : St} {b : List Nat} {t g o j x : Nat} (h : T1 W w s b t) (hc : ∀ (j x : Nat), b[j]? = some x → W.cell? ⟨g, o + j, none⟩ = some (.int .u8 (x : Int))) (hx : b[j]? = some x) : w.cell? ⟨g, o + j, none⟩ = some (.int .u8 (x : Int)) := by
  have := hc j x hx
  exact (World.cell?_of_block (a := ⟨g, o + j, none⟩) (h.below.block g (block_lt_of_cell this))).trans this
theorem wordsTo_length (b : List Nat) : ∀ t, (wordsTo b t).length = t
  | 0 => rfl
  | t + 1 => by simp [wordsTo, wordsTo_length b t]
theorem wcells_length (b : List Nat) (t : Nat) (h : t ≤ 64) : (wcells b t).length = 64 := by simp [wcells, wordsTo_length]; omega
theorem T1.cell {W w : World} {s : St} {b : List Nat} {t : Nat} (h : T1 W w s b t) (ht : t < 64) : w.cell? ⟨W.heap.size + 2, t, none⟩ = some z32 ∧ w.frozen? ⟨W.heap.size + 2, t, none⟩ = false := by
  refine ⟨?_, frozen_of_row _ _ _ _ _ h.ws⟩
  rw [cell_of_row _ _ _ _ _ _ h.ws]
  rw [List.getElem?_toArray, wcells, List.getElem?_append_right (by simp [wordsTo_length]), List.getElem?_replicate, if_pos (by simp [wordsTo_length]; omega)]
theorem wrap_byte (n : Nat) (h : n < 256) : IntKind.u32.wrap (n : Int) = num (BitVec.ofNat 32 n) := by rw [← num_byte n h, wrap_num]
theorem wrap_shl' (X : W32) (k : Nat) (a : Int) (h : a = 2 ^ k) : IntKind.u32.wrap (num X * a) = num (X <<< k) := by subst h; exact wrap_shl X k
theorem shl_byte (x k : Nat) (a : Int) (h : x < 256) (hk : a = 2 ^ k) (hb : x * 2 ^ k < 4294967296) : (x : Int) * a = num (BitVec.ofNat 32 x <<< k) := by
  subst hk
  rw [← wrap_shl, num_byte x h]
  have h2 : ((x * 2 ^ k : Nat) : Int) = (x : Int) * 2 ^ k := by simp
  rw [← h2]
  simp only [IntKind.wrap, IntKind.signed, IntKind.bits]
  simp
  omega
theorem word_bits {b : List Nat} {t x0 x1 x2 x3 : Nat} (h0 : b[4 * t]? = some x0) (h1 : b[4 * t + 1]? = some x1) (h2 : b[4 * t + 2]? = some x2) (h3 : b[4 * t + 3]? = some x3)
    (l0 : x0 < 256) (l1 : x1 < 256) (l2 : x2 < 256) (l3 : x3 < 256) : num (word b t) = bits .or .u32 (bits .or .u32 (bits .or .u32 ((x0 : Int) * 16777216) ((x1 : Int) * 65536)) ((x2 : Int) * 256)) (x3 : Int) := by
  rw [shl_byte x0 24 _ l0 (by decide) (by omega), shl_byte x1 16 _ l1 (by decide) (by omega), shl_byte x2 8 _ l2 (by decide) (by omega), ← num_byte x3 l3, bits_or, bits_or, bits_or]
  unfold word
  simp only [List.getD_eq_getElem?_getD, h0, h1, h2, h3, Option.getD_some]
theorem wcells_set (b : List Nat) (t : Nat) (h : t < 64) : (wcells b t).set t (w32 (nextW b (wordsTo b t) t)) = wcells b (t + 1) := by
  unfold wcells
  rw [List.set_append_right _ _ (by simp [wordsTo_length])]
  simp only [List.length_map, wordsTo_length, Nat.sub_self]
  rw [show 64 - t = (64 - (t + 1)) + 1 by omega, List.replicate_succ, List.set_cons_zero]
  simp [wordsTo]
theorem T1.put {W w : World} {s : St} {b : List Nat} {t : Nat} (h : T1 W w s b t) (ht : t < 64) : T1 W (w.setCell ⟨W.heap.size + 2, t, none⟩ (w32 (nextW b (wordsTo b t) t))) s b (t + 1) := by
  refine ⟨h.below.setCell (by simp) _, by rw [← h.size]; simp, ?_, ?_, ?_⟩
  · rw [heap_setCell_other _ _ _ _ (by simp)]; exact h.st
  · rw [heap_setCell_other _ _ _ _ (by simp)]; exact h.res
  · rw [heap_setCell_same _ _ _ _ _ _ h.ws, List.setIfInBounds_toArray, wcells_set b t ht]
theorem T1.drew {W w : World} {s : St} {b : List Nat} {t : Nat} (h : T1 W w s b t) : T1 W w.drew s b t := ⟨h.below.drew, h.size, h.st, h.res, h.ws⟩
theorem T1.drewN {W w : World} {s : St} {b : List Nat} {t : Nat} (h : T1 W w s b t) (n : Nat) : T1 W (w.drewN n) s b t := ⟨⟨h.below.os, h.below.tape, h.below.output, h.below.size, h.below.block⟩, h.size, h.st, h.res, h.ws⟩
theorem T1.word {W w : World} {s : St} {b : List Nat} {t j : Nat} (h : T1 W w s b t) (hj : j < t) : w.cell? ⟨W.heap.size + 2, j, none⟩ = some (.int .u32 (num ((wordsTo b t).getD j 0))) := by
  rw [cell_of_row _ _ _ _ _ _ h.ws, List.getElem?_toArray, wcells, List.getElem?_append_left (by simpa [wordsTo_length] using hj), List.getElem?_map, List.getD_eq_getElem?_getD, List.getElem?_eq_getElem (by rw [wordsTo_length]; exact hj)]
  rfl
theorem next_bits {b : List Nat} {m : Nat} {v0 v1 v9 v14 : W32} (h0 : v0 = (wordsTo b (m + 16)).getD m 0) (h1 : v1 = (wordsTo b (m + 16)).getD (m + 1) 0) (h9 : v9 = (wordsTo b (m + 16)).getD (m + 9) 0) (h14 : v14 = (wordsTo b (m + 16)).getD (m + 14) 0) :
    (num v0 + num v9 + bits .xor .u32 (bits .xor .u32 (num (rot v1 7)) (num (rot v1 18))) (num v1 / 8) + bits .xor .u32 (bits .xor .u32 (num (rot v14 17)) (num (rot v14 19))) (num v14 / 1024)) % 4294967296 = num (nextW b (wordsTo b (m + 16)) (m + 16)) := by
  have e8 := div_shr v1 3
  have e1024 := div_shr v14 10
  have r8 : (2 : Int) ^ 3 = 8 := by decide
  have r1024 : (2 : Int) ^ 10 = 1024 := by decide
  rw [r8] at e8
  rw [r1024] at e1024
  rw [e8, e1024, bits_xor, bits_xor, bits_xor, bits_xor]
  unfold nextW
  rw [if_neg (by omega), show m + 16 - 16 = m by omega, show m + 16 - 7 = m + 9 by omega, show m + 16 - 15 = m + 1 by omega, show m + 16 - 2 = m + 14 by omega, ← h0, ← h1, ← h9, ← h14]
  unfold sig0 sig1 num
  simp only [BitVec.toNat_add]
  generalize (rot v1 7 ^^^ rot v1 18 ^^^ v1 >>> 3).toNat = A
  generalize (rot v14 17 ^^^ rot v14 19 ^^^ v14 >>> 10).toNat = B
  omega
theorem st_cells {w : World} {g : Nat} {s : St} {T : TypeId} (h : w.heap[g]? = some (.cells (s.list.map w32).toArray T (0, 0))) :
    w.cell? ⟨g, 0, none⟩ = some (.int .u32 (num s.a)) ∧ w.cell? ⟨g, 1, none⟩ = some (.int .u32 (num s.b)) ∧ w.cell? ⟨g, 2, none⟩ = some (.int .u32 (num s.c)) ∧ w.cell? ⟨g, 3, none⟩ = some (.int .u32 (num s.d)) ∧
    w.cell? ⟨g, 4, none⟩ = some (.int .u32 (num s.e)) ∧ w.cell? ⟨g, 5, none⟩ = some (.int .u32 (num s.f)) ∧ w.cell? ⟨g, 6, none⟩ = some (.int .u32 (num s.g)) ∧ w.cell? ⟨g, 7, none⟩ = some (.int .u32 (num s.h)) := by
  refine ⟨?_, ?_, ?_, ?_, ?_, ?_, ?_, ?_⟩ <;> (rw [cell_of_row _ _ _ _ _ _ h]; rfl)
/-- The world in the second loop. -/
structure T2 (W w : World) (s : St) (b : List Nat) (B : Nat) (x : List W32) : Prop where
  below : Below W.heap.size W w
  hB : B = W.heap.size + 3
  size : w.heap.size = W.heap.size + 4
  st : w.heap[W.heap.size]? = some (.cells (s.list.map w32).toArray 92 (0, 0))
  res : w.heap[W.heap.size + 1]? = some (.cells (List.replicate 8 z32).toArray 92 (0, 0))
  ws : w.heap[W.heap.size + 2]? = some (.cells (wcells b 64).toArray 104 (0, 0))
  cur : w.heap[B]? = some (.cells (x.map w32).toArray 92 (0, 0))
theorem T1.alloc {W w : World} {s : St} {b : List Nat} (h : T1 W w s b 64) : T2 W (w.alloc (.cells #[.int .u32 (num s.a), .int .u32 (num s.b), .int .u32 (num s.c), .int .u32 (num s.d), .int .u32 (num s.e), .int .u32 (num s.f), .int .u32 (num s.g), .int .u32 (num s.h)] 92)) s b w.heap.size s.list := by
  have hs := h.size
  refine ⟨h.below.alloc (by omega) _, hs, by simp [hs], ?_, ?_, ?_, ?_⟩
  · rw [Below.heap_alloc _ _ _ (by omega)]; exact h.st
  · rw [Below.heap_alloc _ _ _ (by omega)]; exact h.res
  · rw [Below.heap_alloc _ _ _ (by omega)]; exact h.ws
  · rw [heap_alloc_new]; rfl
theorem T2.old {W w : World} {s : St} {b : List Nat} {B : Nat} {x : List W32} (h : T2 W w s b B x) {k : Nat} {o : Obj} (hk : W.heap[k]? = some o) : w.heap[k]? = some o := by
  rw [h.below.block k (Array.getElem?_eq_some_iff.1 hk).1]; exact hk
theorem T2.word {W w : World} {s : St} {b : List Nat} {B : Nat} {x : List W32} (h : T2 W w s b B x) {j : Nat} (hj : j < 64) : w.cell? ⟨W.heap.size + 2, j, none⟩ = some (.int .u32 (num ((wordsTo b 64).getD j 0))) := by
  rw [cell_of_row _ _ _ _ _ _ h.ws, List.getElem?_toArray, wcells, List.getElem?_append_left (by simpa [wordsTo_length] using hj), List.getElem?_map, List.getD_eq_getElem?_getD, List.getElem?_eq_getElem (by rw [wordsTo_length]; exact hj)]
  rfl
theorem T2.drewN {W w : World} {s : St} {b : List Nat} {B : Nat} {x : List W32} (h : T2 W w s b B x) (n : Nat) : T2 W (w.drewN n) s b B x := ⟨⟨h.below.os, h.below.tape, h.below.output, h.below.size, h.below.block⟩, h.hB, h.size, h.st, h.res, h.ws, h.cur⟩
def mix (x s : St) (k : Nat) : List W32 := (x.add s).list.take k ++ x.list.drop k
theorem mix_get (x s : St) {k : Nat} (h : k < 8) : (mix x s k)[k]? = some (x.list.getD k 0) := by
  match k, h with
  | 0, _ => rfl
  | 1, _ => rfl
  | 2, _ => rfl
  | 3, _ => rfl
  | 4, _ => rfl
  | 5, _ => rfl
  | 6, _ => rfl
  | 7, _ => rfl
theorem list_get (x : St) {k : Nat} (h : k < 8) : x.list[k]? = some (x.list.getD k 0) := by
  match k, h with
  | 0, _ => rfl
  | 1, _ => rfl
  | 2, _ => rfl
  | 3, _ => rfl
  | 4, _ => rfl
  | 5, _ => rfl
  | 6, _ => rfl
  | 7, _ => rfl
theorem mix_set (x s : St) {k : Nat} (h : k < 8) : (mix x s k).set k (x.list.getD k 0 + s.list.getD k 0) = mix x s (k + 1) := by
  match k, h with
  | 0, _ => rfl
  | 1, _ => rfl
  | 2, _ => rfl
  | 3, _ => rfl
  | 4, _ => rfl
  | 5, _ => rfl
  | 6, _ => rfl
  | 7, _ => rfl
theorem T2.curAt {W w : World} {s : St} {b : List Nat} {B : Nat} {x : List W32} (h : T2 W w s b B x) {j : Nat} {v : W32} (hj : x[j]? = some v) : w.cell? ⟨B, j, none⟩ = some (.int .u32 (num v)) := by
  rw [cell_of_row _ _ _ _ _ _ h.cur, List.getElem?_toArray, List.getElem?_map, hj]
  rfl
theorem T2.stAt {W w : World} {s : St} {b : List Nat} {B : Nat} {x : List W32} (h : T2 W w s b B x) {j : Nat} {v : W32} (hj : s.list[j]? = some v) : w.cell? ⟨W.heap.size, j, none⟩ = some (.int .u32 (num v)) := by
  rw [cell_of_row _ _ _ _ _ _ h.st, List.getElem?_toArray, List.getElem?_map, hj]
  rfl
theorem T2.put {W w : World} {s : St} {b : List Nat} {B : Nat} {x : List W32} (h : T2 W w s b B x) (j : Nat) (v : W32) : T2 W (w.setCell ⟨B, j, none⟩ (.int .u32 (num v))) s b B (x.set j v) := by
  have hB := h.hB
  refine ⟨h.below.setCell (by rw [hB]; simp) _, hB, by rw [← h.size]; simp, ?_, ?_, ?_, ?_⟩
  · rw [heap_setCell_other _ _ _ _ (by simp; omega)]; exact h.st
  · rw [heap_setCell_other _ _ _ _ (by simp; omega)]; exact h.res
  · rw [heap_setCell_other _ _ _ _ (by simp; omega)]; exact h.ws
  · rw [heap_setCell_same _ _ _ _ _ _ h.cur, List.setIfInBounds_toArray, List.map_set]; rfl
theorem T2.put8 {W w : World} {s : St} {b : List Nat} {B : Nat} {x : St} (h : T2 W w s b B x.list) (y : St) : T2 W ((((((((w.setCell ⟨B, 0, none⟩ (.int .u32 (num y.a))).setCell ⟨B, 1, none⟩ (.int .u32 (num y.b))).setCell ⟨B, 2, none⟩ (.int .u32 (num y.c))).setCell ⟨B, 3, none⟩ (.int .u32 (num y.d))).setCell ⟨B, 4, none⟩ (.int .u32 (num y.e))).setCell ⟨B, 5, none⟩ (.int .u32 (num y.f))).setCell ⟨B, 6, none⟩ (.int .u32 (num y.g))).setCell ⟨B, 7, none⟩ (.int .u32 (num y.h))) s b B y.list :=
  (((((((h.put 0 y.a).put 1 y.b).put 2 y.c).put 3 y.d).put 4 y.e).put 5 y.f).put 6 y.g).put 7 y.h
theorem step_bits_a (x : St) (kk ww : W32) : (num x.h + bits .xor .u32 (bits .xor .u32 (num (rot x.e 6)) (num (rot x.e 11))) (num (rot x.e 25)) + bits .xor .u32 (num x.g) (bits .and .u32 (num x.e) (bits .xor .u32 (num x.f) (num x.g))) + num kk + num ww +
      (bits .xor .u32 (bits .xor .u32 (num (rot x.a 2)) (num (rot x.a 13))) (num (rot x.a 22)) + bits .or .u32 (bits .and .u32 (num x.a) (num x.b)) (bits .and .u32 (num x.c) (bits .or .u32 (num x.a) (num x.b))))) % 4294967296 = num (Sha.step x kk ww).a := by
  simp only [bits_xor, bits_and, bits_or]
  unfold Sha.step big1 big0 num
  simp only [BitVec.toNat_add]
  generalize (rot x.e 6 ^^^ rot x.e 11 ^^^ rot x.e 25).toNat = A
  generalize (x.g ^^^ x.e &&& (x.f ^^^ x.g)).toNat = B
  generalize (rot x.a 2 ^^^ rot x.a 13 ^^^ rot x.a 22).toNat = C
  generalize (x.a &&& x.b ||| x.c &&& (x.a ||| x.b)).toNat = D
  omega
theorem step_bits_e (x : St) (kk ww : W32) : (num x.d + (num x.h + bits .xor .u32 (bits .xor .u32 (num (rot x.e 6)) (num (rot x.e 11))) (num (rot x.e 25)) + bits .xor .u32 (num x.g) (bits .and .u32 (num x.e) (bits .xor .u32 (num x.f) (num x.g))) + num kk + num ww)) % 4294967296 = num (Sha.step x kk ww).e := by
  simp only [bits_xor, bits_and, bits_or]
  unfold Sha.step big1 num
  simp only [BitVec.toNat_add]
  generalize (rot x.e 6 ^^^ rot x.e 11 ^^^ rot x.e 25).toNat = A
  generalize (x.g ^^^ x.e &&& (x.f ^^^ x.g)).toNat = B
  omega
theorem zero_cells {w : World} {g : Nat} {T : TypeId} (h : w.heap[g]? = some (.cells (List.replicate 8 z32).toArray T (0, 0))) :
    w.cell? ⟨g, 0, none⟩ = some z32 ∧ w.cell? ⟨g, 1, none⟩ = some z32 ∧ w.cell? ⟨g, 2, none⟩ = some z32 ∧ w.cell? ⟨g, 3, none⟩ = some z32 ∧
    w.cell? ⟨g, 4, none⟩ = some z32 ∧ w.cell? ⟨g, 5, none⟩ = some z32 ∧ w.cell? ⟨g, 6, none⟩ = some z32 ∧ w.cell? ⟨g, 7, none⟩ = some z32 := by
  refine ⟨?_, ?_, ?_, ?_, ?_, ?_, ?_, ?_⟩ <;> (rw [cell_of_row _ _ _ _ _ _ h]; rfl)
theorem zero_frozen {w : World} {g : Nat} {T : TypeId} (h : w.heap[g]? = some (.cells (List.replicate 8 z32).toArray T (0, 0))) :
    w.frozen? ⟨g, 0, none⟩ = false ∧ w.frozen? ⟨g, 1, none⟩ = false ∧ w.frozen? ⟨g, 2, none⟩ = false ∧ w.frozen? ⟨g, 3, none⟩ = false ∧
    w.frozen? ⟨g, 4, none⟩ = false ∧ w.frozen? ⟨g, 5, none⟩ = false ∧ w.frozen? ⟨g, 6, none⟩ = false ∧ w.frozen? ⟨g, 7, none⟩ = false := by
  refine ⟨?_, ?_, ?_, ?_, ?_, ?_, ?_, ?_⟩ <;> exact frozen_of_row _ _ _ _ _ h
theorem add_bits (a b : W32) : (num a + num b) % 4294967296 = num (a + b) := by
  unfold num
  simp only [BitVec.toNat_add]
  omega
theorem set_back {w : World} {g : Nat} {T : TypeId} {l : List W32} (h : w.heap[g]? = some (.cells (l.map w32).toArray T (0, 0))) (j : Nat) (v : W32) :
    (w.setCell ⟨g, j, none⟩ (.int .u32 (num v))).heap[g]? = some (.cells ((l.set j v).map w32).toArray T (0, 0)) := by
  rw [heap_setCell_same _ _ _ _ _ _ h, List.setIfInBounds_toArray, List.map_set]; rfl
theorem T2.res8 {W w : World} {s : St} {b : List Nat} {B : Nat} {x : List W32} (h : T2 W w s b B x) (y : St) :
    ((((((((w.setCell ⟨W.heap.size + 1, 0, none⟩ (.int .u32 (num y.a))).setCell ⟨W.heap.size + 1, 1, none⟩ (.int .u32 (num y.b))).setCell ⟨W.heap.size + 1, 2, none⟩ (.int .u32 (num y.c))).setCell ⟨W.heap.size + 1, 3, none⟩ (.int .u32 (num y.d))).setCell ⟨W.heap.size + 1, 4, none⟩ (.int .u32 (num y.e))).setCell ⟨W.heap.size + 1, 5, none⟩ (.int .u32 (num y.f))).setCell ⟨W.heap.size + 1, 6, none⟩ (.int .u32 (num y.g))).setCell ⟨W.heap.size + 1, 7, none⟩ (.int .u32 (num y.h))).heap[W.heap.size + 1]? = some (.cells (y.list.map w32).toArray 92 (0, 0)) ∧
    Below W.heap.size W ((((((((w.setCell ⟨W.heap.size + 1, 0, none⟩ (.int .u32 (num y.a))).setCell ⟨W.heap.size + 1, 1, none⟩ (.int .u32 (num y.b))).setCell ⟨W.heap.size + 1, 2, none⟩ (.int .u32 (num y.c))).setCell ⟨W.heap.size + 1, 3, none⟩ (.int .u32 (num y.d))).setCell ⟨W.heap.size + 1, 4, none⟩ (.int .u32 (num y.e))).setCell ⟨W.heap.size + 1, 5, none⟩ (.int .u32 (num y.f))).setCell ⟨W.heap.size + 1, 6, none⟩ (.int .u32 (num y.g))).setCell ⟨W.heap.size + 1, 7, none⟩ (.int .u32 (num y.h))) := by
  have h0 : w.heap[W.heap.size + 1]? = some (.cells (([0, 0, 0, 0, 0, 0, 0, 0] : List W32).map w32).toArray 92 (0, 0)) := h.res
  have g : W.heap.size ≤ W.heap.size + 1 := by omega
  exact ⟨set_back (set_back (set_back (set_back (set_back (set_back (set_back (set_back h0 0 y.a) 1 y.b) 2 y.c) 3 y.d) 4 y.e) 5 y.f) 6 y.g) 7 y.h,
    (((((((h.below.setCell g _).setCell g _).setCell g _).setCell g _).setCell g _).setCell g _).setCell g _).setCell g _⟩
theorem range_below {w w' : World} {g : Nat} {cs : List Value} (h : w.rangeAt g 0 cs) (hb : Below w.heap.size w w') : w'.rangeAt g 0 cs := fun j u hj =>
  (World.cell?_of_block (a := ⟨g, 0 + j, none⟩) (hb.block g (block_lt_of_cell (h j u hj)))).trans (h j u hj)
theorem run_index_consts (w : World) (t : Nat) (ht : t < 64) : (Instr.index 104 (.agg (consts.map w32).toArray) (.int .i64 (t : Int))).run Tryd.prog w = .ok (.int .u32 (num (consts.getD t 0))) w := by
  have h1 : ((consts.map w32).toArray)[t]? = some (.int .u32 (num (consts.getD t 0))) := by
    rw [List.getElem?_toArray, List.getElem?_map, List.getD_eq_getElem?_getD, List.getElem?_eq_getElem (show t < consts.length from ht)]
    rfl
  generalize (consts.map w32).toArray = C at *
  simp only [Instr.index]
  simp [go_sem, h1, ht]
theorem st_frozen {w : World} {g : Nat} {s : St} {T : TypeId} (h : w.heap[g]? = some (.cells (s.list.map w32).toArray T (0, 0))) :
    w.frozen? ⟨g, 0, none⟩ = false ∧ w.frozen? ⟨g, 1, none⟩ = false ∧ w.frozen? ⟨g, 2, none⟩ = false ∧ w.frozen? ⟨g, 3, none⟩ = false ∧
    w.frozen? ⟨g, 4, none⟩ = false ∧ w.frozen? ⟨g, 5, none⟩ = false ∧ w.frozen? ⟨g, 6, none⟩ = false ∧ w.frozen? ⟨g, 7, none⟩ = false := by
  refine ⟨?_, ?_, ?_, ?_, ?_, ?_, ?_, ?_⟩ <;> exact frozen_of_row _ _ _ _ _ h
end Go.Proofs.YtplcjgpmainbnaaDoor.ShaW
