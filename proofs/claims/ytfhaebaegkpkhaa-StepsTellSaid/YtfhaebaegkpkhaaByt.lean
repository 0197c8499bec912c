/- Bytes, whole numbers, rows of them in memory (over any program that has bytes and ints). -/
import Derived.Test.YtfhaebaegkpkhaaProg
import Derived.KernelRfl
import Derived.Test.YtfhaebaegkpkhaaOwn
import Derived.Test.YtfhaebaegkpkhaaKit
set_option linter.unusedVariables false
set_option linter.unusedSimpArgs false
namespace Go.Proofs.Ytfhaebaegkpkhaa.Byt
open Go Go.RowKit OwnS
def bytesV (l : List Nat) : List Value := l.map fun b : Nat => (.int .u8 (b : Int) : Value)
theorem bytesV_length (l : List Nat) : (bytesV l).length = l.length := by simp [bytesV]
theorem bytesV_one (l : List Nat) : ∀ u ∈ bytesV l, u.oneCell' = true := fun u hu => by
  obtain ⟨n, -, rfl⟩ := List.mem_map.1 hu
  rfl
theorem bytesV_append (l m : List Nat) : bytesV (l ++ m) = bytesV l ++ bytesV m := by simp [bytesV]
theorem bytesV_drop (l : List Nat) (k : Nat) : (bytesV l).drop k = bytesV (l.drop k) := by simp [bytesV]
theorem bytesV_take (l : List Nat) (k : Nat) : (bytesV l).take k = bytesV (l.take k) := by simp [bytesV]
theorem infoB : ElemInfo Try.prog 5 (.int .u8 0) 1 1 := elemInfo (by kernel_rfl) rfl rfl
def intsV (l : List Int) : List Value := l.map fun n => (.int .i64 n : Value)
theorem intsV_length (l : List Int) : (intsV l).length = l.length := by simp [intsV]
theorem intsV_one (l : List Int) : ∀ u ∈ intsV l, u.oneCell' = true := fun u hu => by
  obtain ⟨n, -, rfl⟩ := List.mem_map.1 hu
  rfl
theorem intsV_append (l m : List Int) : intsV (l ++ m) = intsV l ++ intsV m := by simp [intsV]
theorem intsV_drop (l : List Int) (k : Nat) : (intsV l).drop k = intsV (l.drop k) := by simp [intsV]
theorem intsV_take (l : List Int) (k : Nat) : (intsV l).take k = intsV (l.take k) := by simp [intsV]
theorem infoI : ElemInfo Try.prog 3 (.int .i64 0) 1 8 := elemInfo (by kernel_rfl) rfl rfl
/-- Bytes that are the caller's own. -/
def BytesPost (W : World) (b : List Nat) (e : Ending) (w' : World) : Prop := ∃ A c, e = .returned (.slice A b.length c) ∧ Owns w' W.heap.size 1 (.slice A b.length c) b.length (bytesV b) ∧ Below W.heap.size W w'
def IntsPost (W : World) (l : List Int) (e : Ending) (w' : World) : Prop := ∃ A c, e = .returned (.slice A l.length c) ∧ Owns w' W.heap.size 1 (.slice A l.length c) l.length (intsV l) ∧ Below W.heap.size W w'
/-- A list of whole numbers, seen: the i-th one. -/
theorem Sees.int {w : World} {g o n c : Nat} {l : List Int} (h : Sees w 1 (.slice (some ⟨g, o, none⟩) n c) n (intsV l)) {i : Nat} {x : Int} (hi : l[i]? = some x) : w.cell? ⟨g, o + i, none⟩ = some (.int .i64 x) := by
  have hl := h.1
  rw [intsV_length, Nat.mul_one] at hl
  have hi' := (List.getElem?_eq_some_iff.1 hi).1
  obtain ⟨g', o', c', e, -, -, hr⟩ := h.holds (by omega)
  injection e with e1 e2 e3
  injection e1 with e1
  injection e1 with e1 e4
  subst e1 e4
  exact hr i _ (by unfold intsV; rw [List.getElem?_map, hi]; rfl)
theorem Sees.byte {w : World} {g o n c : Nat} {l : List Nat} (h : Sees w 1 (.slice (some ⟨g, o, none⟩) n c) n (bytesV l)) {i x : Nat} (hi : l[i]? = some x) : w.cell? ⟨g, o + i, none⟩ = some (.int .u8 (x : Int)) := by
  have hl := h.1
  rw [bytesV_length, Nat.mul_one] at hl
  have hi' := (List.getElem?_eq_some_iff.1 hi).1
  obtain ⟨g', o', c', e, -, -, hr⟩ := h.holds (by omega)
  injection e with e1 e2 e3
  injection e1 with e1
  injection e1 with e1 e4
  subst e1 e4
  exact hr i _ (by unfold bytesV; rw [List.getElem?_map, hi]; rfl)
theorem some_addr {w : World} {size n : Nat} {A : Option Addr} {c : Nat} {xs : List Value} (h : Sees w size (.slice A n c) n xs) (hn : 0 < n) : ∃ g o, A = some ⟨g, o, none⟩ := by
  obtain ⟨g', o', c', e, -⟩ := h.holds hn
  injection e with e1 e2 e3
  exact ⟨g', o', e1⟩
/-- Rows of bytes. -/
structure RowsAt (w : World) (v : Value) (hs : List Value) (ls : List (List Nat)) : Prop where
  sees : Sees w 1 v ls.length hs
  row : ∀ (i : Nat) (l : List Nat), ls[i]? = some l → ∃ h, hs[i]? = some h ∧ Sees w 1 h l.length (bytesV l)
  byte : ∀ l ∈ ls, ∀ x ∈ l, x < 256
theorem RowsAt.new {w w' : World} {v : Value} {hs : List Value} {ls : List (List Nat)} (h : RowsAt w v hs ls) (hb : Below w.heap.size w w') : RowsAt w' v hs ls :=
  ⟨h.sees.new hb, fun i l hl => by obtain ⟨x, h1, h2⟩ := h.row i l hl; exact ⟨x, h1, h2.new hb⟩, h.byte⟩
/-- The i-th row's header, as a walk meets it. -/
theorem RowsAt.cell {w : World} {v : Value} {hs : List Value} {ls : List (List Nat)} (h : RowsAt w v hs ls) {i : Nat} (hi : i < ls.length) : ∃ l g o cap A c, ls[i]? = some l ∧ v = .slice (some ⟨g, o, none⟩) ls.length cap ∧ w.cell? ⟨g, o + i, none⟩ = some (.slice A l.length c) ∧ Sees w 1 (.slice A l.length c) l.length (bytesV l) := by
  obtain ⟨g, o, cap, rfl, -, -, h3⟩ := h.sees.holds (by omega)
  obtain ⟨x, h4, h5⟩ := h.row i _ (List.getElem?_eq_getElem hi)
  obtain ⟨A, c, rfl, -, -⟩ := h5.form
  exact ⟨ls[i], g, o, cap, A, c, List.getElem?_eq_getElem hi, rfl, h3 i _ h4, h5⟩
theorem set_cells {w : World} {g : Nat} {T : TypeId} {l : List Value} (h : w.heap[g]? = some (.cells l.toArray T (0, 0))) (j : Nat) (v : Value) :
    (w.setCell ⟨g, j, none⟩ v).heap[g]? = some (.cells (l.set j v).toArray T (0, 0)) := by
  rw [heap_setCell_same _ _ _ _ _ _ h]; simp
/-- One more of a list is laid where noughts lie. -/
theorem lay_next (l : List Nat) (N k : Nat) (h : k < l.length) (hN : k < N) : (bytesV (l.take k ++ List.replicate (N - k) 0)).set k (.int .u8 ((l.getD k 0 : Nat) : Int)) = bytesV (l.take (k + 1) ++ List.replicate (N - (k + 1)) 0) := by
  unfold bytesV
  rw [← List.map_set (f := fun b : Nat => (.int .u8 (b : Int) : Value)), List.set_append_right _ _ (by rw [List.length_take]; omega)]
  congr 1
  have e : (l.take k).length = k := by rw [List.length_take]; omega
  rw [e, Nat.sub_self, show N - k = (N - (k + 1)) + 1 by omega, List.replicate_succ, List.set_cons_zero, List.take_succ_eq_append_getElem h, List.append_assoc]
  rw [List.getD_eq_getElem?_getD, List.getElem?_eq_getElem h]
  rfl
/-- A block of a made-up size that is filled from its beginning on. -/
structure Filling (W w : World) (L : Nat) (T : TypeId) (l : List Nat) (k : Nat) : Prop where
  keeps : Keeps W w (· = L)
  size : w.heap.size = W.heap.size
  blk : w.heap[L]? = some (.cells (bytesV (l.take k ++ List.replicate (l.length - k) 0)).toArray T (0, 0))
theorem Filling.put {W w : World} {L : Nat} {T : TypeId} {l : List Nat} {k x : Nat} (h : Filling W w L T l k) (hk : k < l.length) (hx : x = l.getD k 0) : Filling W (w.setCell ⟨L, k, none⟩ (.int .u8 (x : Int))) L T l (k + 1) := by
  refine ⟨h.keeps.setCell (.inl rfl) _, by rw [← h.size]; simp, ?_⟩
  rw [set_cells h.blk, hx, lay_next l l.length k hk hk]
theorem below_chain {W w w' : World} (h : Below W.heap.size W w) (k : Below w.heap.size w w') : Below W.heap.size W w' := h.trans (k.mono h.size)
theorem below_chain' {W w w' : World} {B : Nat} (h : Below B W w) (k : Below w.heap.size w w') (hB : B ≤ W.heap.size := by exact Nat.le_refl _) : Below B W w' := h.trans (k.mono (Nat.le_trans hB h.size))
end Go.Proofs.Ytfhaebaegkpkhaa.Byt
