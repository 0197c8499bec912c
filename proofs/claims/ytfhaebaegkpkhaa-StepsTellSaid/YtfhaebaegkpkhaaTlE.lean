/- cupelref12.Plan.Reads, Writes. Printed by genptr.py. -/
import Derived.Test.YtfhaebaegkpkhaaTlC
set_option linter.unusedVariables false
set_option linter.unusedSimpArgs false
namespace Go.Proofs.Ytfhaebaegkpkhaa.Tl
open Go.RowKit OwnS Byt Cfg Stp Pln QTail RevL Rf12 Ten
attribute [local go_sem ↓] Kit.execOp_call_slot
attribute [local go_sem] Kit.callSlot_func
/-- The plan and the step in memory, as the reference has them. -/
structure RRAt (W w1 : World) (p : Pln) (s : Stp.Stp) : Prop where
  below : Below W.heap.size W w1
  pl : w1.heap[W.heap.size]? = some (.cells (refC p).toArray 84 (0, 0))
  st : w1.heap[W.heap.size + 1]? = some (.cells s.cells.toArray 88 (0, 0))
theorem rrat_of (W : World) (p : Pln) (k0 pos layer head row : Int) : RRAt W ((W.alloc (.cells (refC p).toArray 84)).alloc (.cells #[.int .i64 k0, .int .i64 pos, .int .i64 layer, .int .i64 head, .int .i64 row] 88)) p ⟨k0, pos, layer, head, row⟩ := by
  refine ⟨((Below.refl _ _).alloc (Nat.le_refl _) _).alloc (by simp) _, ?_, ?_⟩
  · rw [Below.heap_alloc _ _ _ (by simp)]; exact heap_alloc_new W _
  · have := heap_alloc_new (W.alloc (.cells (refC p).toArray 84)) (.cells #[.int .i64 k0, .int .i64 pos, .int .i64 layer, .int .i64 head, .int .i64 row] 88)
    simpa [Stp.Stp.cells] using this
set_option maxRecDepth 100000 in
set_option maxHeartbeats 4000000 in
theorem rreads_1 (W : World) (p : Pln) (hp : Small p) (at_ : Nat) (pos layer head row : Int) (hok : StpOk ⟨1, pos, layer, head, row⟩ at_) (hat : at_ ≤ 64) :
    Calls Try.prog 38 #[.agg (refC p).toArray, .agg #[.int .i64 1, .int .i64 pos, .int .i64 layer, .int .i64 head, .int .i64 row]] W (ReadsPost W (readsL p.places ⟨1, pos, layer, head, row⟩)) := by
  have hra := rrat_of W p 1 pos layer head row
  obtain ⟨w1, hw1⟩ : ∃ w1, w1 = (W.alloc (.cells (refC p).toArray 84)).alloc (.cells #[.int .i64 1, .int .i64 pos, .int .i64 layer, .int .i64 head, .int .i64 row] 88) := ⟨_, rfl⟩
  rw [← hw1] at hra
  have c0 : w1.cell? ⟨W.heap.size + 1, 0, none⟩ = some (.int .i64 1) := by rw [cell_of_row _ _ 0 _ _ _ hra.st]; rfl
  have c1 : w1.cell? ⟨W.heap.size + 1, 1, none⟩ = some (.int .i64 pos) := by rw [cell_of_row _ _ 1 _ _ _ hra.st]; rfl
  have c2 : w1.cell? ⟨W.heap.size + 1, 2, none⟩ = some (.int .i64 layer) := by rw [cell_of_row _ _ 2 _ _ _ hra.st]; rfl
  have c4 : w1.cell? ⟨W.heap.size + 1, 4, none⟩ = some (.int .i64 row) := by rw [cell_of_row _ _ 4 _ _ _ hra.st]; rfl
  have HW := Lib.hid hw1
  have HC := Lib.hid hra
  clear hw1 hra hok hp hat
  go_enter Try.func38, Try.ntmps38
  go_upto_region 1 with fail
  rw [← HW.out]
  go_wp2_with fail
  go_ret
  exact ⟨_, _, _, rfl, rfl, ints_block (ks := [0]) (heap_alloc_new w1 _) 1 rfl (by simp), below_chain HC.out.below ((Below.refl _ _).alloc (Nat.le_refl _) _)⟩
set_option maxRecDepth 100000 in
set_option maxHeartbeats 4000000 in
theorem rreads_2 (W : World) (p : Pln) (hp : Small p) (at_ : Nat) (pos layer head row : Int) (hok : StpOk ⟨2, pos, layer, head, row⟩ at_) (hat : at_ ≤ 64) :
    Calls Try.prog 38 #[.agg (refC p).toArray, .agg #[.int .i64 2, .int .i64 pos, .int .i64 layer, .int .i64 head, .int .i64 row]] W (ReadsPost W (readsL p.places ⟨2, pos, layer, head, row⟩)) := by
  have hra := rrat_of W p 2 pos layer head row
  obtain ⟨w1, hw1⟩ : ∃ w1, w1 = (W.alloc (.cells (refC p).toArray 84)).alloc (.cells #[.int .i64 2, .int .i64 pos, .int .i64 layer, .int .i64 head, .int .i64 row] 88) := ⟨_, rfl⟩
  rw [← hw1] at hra
  have c0 : w1.cell? ⟨W.heap.size + 1, 0, none⟩ = some (.int .i64 2) := by rw [cell_of_row _ _ 0 _ _ _ hra.st]; rfl
  have c1 : w1.cell? ⟨W.heap.size + 1, 1, none⟩ = some (.int .i64 pos) := by rw [cell_of_row _ _ 1 _ _ _ hra.st]; rfl
  have c2 : w1.cell? ⟨W.heap.size + 1, 2, none⟩ = some (.int .i64 layer) := by rw [cell_of_row _ _ 2 _ _ _ hra.st]; rfl
  have c4 : w1.cell? ⟨W.heap.size + 1, 4, none⟩ = some (.int .i64 row) := by rw [cell_of_row _ _ 4 _ _ _ hra.st]; rfl
  have HW := Lib.hid hw1
  have HC := Lib.hid hra
  clear hw1 hra hok hp hat
  go_enter Try.func38, Try.ntmps38
  go_upto_region 1 with fail
  rw [← HW.out]
  go_wp2_with fail
  go_ret
  exact ⟨_, _, _, rfl, rfl, ints_block (ks := [1]) (heap_alloc_new w1 _) 1 rfl (by simp), below_chain HC.out.below ((Below.refl _ _).alloc (Nat.le_refl _) _)⟩
set_option maxRecDepth 100000 in
set_option maxHeartbeats 4000000 in
theorem rreads_3 (W : World) (p : Pln) (hp : Small p) (at_ : Nat) (pos layer head row : Int) (hok : StpOk ⟨3, pos, layer, head, row⟩ at_) (hat : at_ ≤ 64) :
    Calls Try.prog 38 #[.agg (refC p).toArray, .agg #[.int .i64 3, .int .i64 pos, .int .i64 layer, .int .i64 head, .int .i64 row]] W (ReadsPost W (readsL p.places ⟨3, pos, layer, head, row⟩)) := by
  have hra := rrat_of W p 3 pos layer head row
  obtain ⟨w1, hw1⟩ : ∃ w1, w1 = (W.alloc (.cells (refC p).toArray 84)).alloc (.cells #[.int .i64 3, .int .i64 pos, .int .i64 layer, .int .i64 head, .int .i64 row] 88) := ⟨_, rfl⟩
  rw [← hw1] at hra
  have c0 : w1.cell? ⟨W.heap.size + 1, 0, none⟩ = some (.int .i64 3) := by rw [cell_of_row _ _ 0 _ _ _ hra.st]; rfl
  have c1 : w1.cell? ⟨W.heap.size + 1, 1, none⟩ = some (.int .i64 pos) := by rw [cell_of_row _ _ 1 _ _ _ hra.st]; rfl
  have c2 : w1.cell? ⟨W.heap.size + 1, 2, none⟩ = some (.int .i64 layer) := by rw [cell_of_row _ _ 2 _ _ _ hra.st]; rfl
  have c4 : w1.cell? ⟨W.heap.size + 1, 4, none⟩ = some (.int .i64 row) := by rw [cell_of_row _ _ 4 _ _ _ hra.st]; rfl
  have HW := Lib.hid hw1
  have HC := Lib.hid hra
  clear hw1 hra hok hp hat
  go_enter Try.func38, Try.ntmps38
  go_upto_region 1 with fail
  rw [← HW.out]
  go_wp2_with fail
  go_ret
  exact ⟨_, _, _, rfl, rfl, ints_block (ks := [2, 3]) (heap_alloc_new w1 _) 2 rfl (by simp), below_chain HC.out.below ((Below.refl _ _).alloc (Nat.le_refl _) _)⟩
set_option maxRecDepth 100000 in
set_option maxHeartbeats 4000000 in
theorem rreads_4 (W : World) (p : Pln) (hp : Small p) (at_ : Nat) (pos layer head row : Int) (hok : StpOk ⟨4, pos, layer, head, row⟩ at_) (hat : at_ ≤ 64) :
    Calls Try.prog 38 #[.agg (refC p).toArray, .agg #[.int .i64 4, .int .i64 pos, .int .i64 layer, .int .i64 head, .int .i64 row]] W (ReadsPost W (readsL p.places ⟨4, pos, layer, head, row⟩)) := by
  have hra := rrat_of W p 4 pos layer head row
  obtain ⟨w1, hw1⟩ : ∃ w1, w1 = (W.alloc (.cells (refC p).toArray 84)).alloc (.cells #[.int .i64 4, .int .i64 pos, .int .i64 layer, .int .i64 head, .int .i64 row] 88) := ⟨_, rfl⟩
  rw [← hw1] at hra
  have c0 : w1.cell? ⟨W.heap.size + 1, 0, none⟩ = some (.int .i64 4) := by rw [cell_of_row _ _ 0 _ _ _ hra.st]; rfl
  have c1 : w1.cell? ⟨W.heap.size + 1, 1, none⟩ = some (.int .i64 pos) := by rw [cell_of_row _ _ 1 _ _ _ hra.st]; rfl
  have c2 : w1.cell? ⟨W.heap.size + 1, 2, none⟩ = some (.int .i64 layer) := by rw [cell_of_row _ _ 2 _ _ _ hra.st]; rfl
  have c4 : w1.cell? ⟨W.heap.size + 1, 4, none⟩ = some (.int .i64 row) := by rw [cell_of_row _ _ 4 _ _ _ hra.st]; rfl
  have HW := Lib.hid hw1
  have HC := Lib.hid hra
  clear hw1 hra hok hp hat
  go_enter Try.func38, Try.ntmps38
  go_upto_region 1 with fail
  rw [← HW.out]
  go_wp2_with fail
  go_ret
  exact ⟨_, _, _, rfl, rfl, ints_block (ks := [2, 4]) (heap_alloc_new w1 _) 2 rfl (by simp), below_chain HC.out.below ((Below.refl _ _).alloc (Nat.le_refl _) _)⟩
set_option maxRecDepth 100000 in
set_option maxHeartbeats 4000000 in
theorem rreads_5 (W : World) (p : Pln) (hp : Small p) (at_ : Nat) (pos layer head row : Int) (hok : StpOk ⟨5, pos, layer, head, row⟩ at_) (hat : at_ ≤ 64) :
    Calls Try.prog 38 #[.agg (refC p).toArray, .agg #[.int .i64 5, .int .i64 pos, .int .i64 layer, .int .i64 head, .int .i64 row]] W (ReadsPost W (readsL p.places ⟨5, pos, layer, head, row⟩)) := by
  have hra := rrat_of W p 5 pos layer head row
  obtain ⟨w1, hw1⟩ : ∃ w1, w1 = (W.alloc (.cells (refC p).toArray 84)).alloc (.cells #[.int .i64 5, .int .i64 pos, .int .i64 layer, .int .i64 head, .int .i64 row] 88) := ⟨_, rfl⟩
  rw [← hw1] at hra
  have c0 : w1.cell? ⟨W.heap.size + 1, 0, none⟩ = some (.int .i64 5) := by rw [cell_of_row _ _ 0 _ _ _ hra.st]; rfl
  have c1 : w1.cell? ⟨W.heap.size + 1, 1, none⟩ = some (.int .i64 pos) := by rw [cell_of_row _ _ 1 _ _ _ hra.st]; rfl
  have c2 : w1.cell? ⟨W.heap.size + 1, 2, none⟩ = some (.int .i64 layer) := by rw [cell_of_row _ _ 2 _ _ _ hra.st]; rfl
  have c4 : w1.cell? ⟨W.heap.size + 1, 4, none⟩ = some (.int .i64 row) := by rw [cell_of_row _ _ 4 _ _ _ hra.st]; rfl
  have HW := Lib.hid hw1
  have HC := Lib.hid hra
  clear hw1 hra hok hp hat
  go_enter Try.func38, Try.ntmps38
  go_upto_region 1 with fail
  rw [← HW.out]
  go_wp2_with fail
  go_ret
  exact ⟨_, _, _, rfl, rfl, ints_block (ks := [2, 5]) (heap_alloc_new w1 _) 2 rfl (by simp), below_chain HC.out.below ((Below.refl _ _).alloc (Nat.le_refl _) _)⟩
set_option maxRecDepth 100000 in
set_option maxHeartbeats 4000000 in
theorem rreads_6 (W : World) (p : Pln) (hp : Small p) (at_ : Nat) (pos layer head row : Int) (hok : StpOk ⟨6, pos, layer, head, row⟩ at_) (hat : at_ ≤ 64) :
    Calls Try.prog 38 #[.agg (refC p).toArray, .agg #[.int .i64 6, .int .i64 pos, .int .i64 layer, .int .i64 head, .int .i64 row]] W (ReadsPost W (readsL p.places ⟨6, pos, layer, head, row⟩)) := by
  have hra := rrat_of W p 6 pos layer head row
  obtain ⟨w1, hw1⟩ : ∃ w1, w1 = (W.alloc (.cells (refC p).toArray 84)).alloc (.cells #[.int .i64 6, .int .i64 pos, .int .i64 layer, .int .i64 head, .int .i64 row] 88) := ⟨_, rfl⟩
  rw [← hw1] at hra
  have c0 : w1.cell? ⟨W.heap.size + 1, 0, none⟩ = some (.int .i64 6) := by rw [cell_of_row _ _ 0 _ _ _ hra.st]; rfl
  have c1 : w1.cell? ⟨W.heap.size + 1, 1, none⟩ = some (.int .i64 pos) := by rw [cell_of_row _ _ 1 _ _ _ hra.st]; rfl
  have c2 : w1.cell? ⟨W.heap.size + 1, 2, none⟩ = some (.int .i64 layer) := by rw [cell_of_row _ _ 2 _ _ _ hra.st]; rfl
  have c4 : w1.cell? ⟨W.heap.size + 1, 4, none⟩ = some (.int .i64 row) := by rw [cell_of_row _ _ 4 _ _ _ hra.st]; rfl
  have HW := Lib.hid hw1
  have HC := Lib.hid hra
  clear hw1 hra hok hp hat
  go_enter Try.func38, Try.ntmps38
  go_upto_region 1 with fail
  rw [← HW.out]
  go_wp2_with fail
  go_ret
  exact ⟨_, _, _, rfl, rfl, ints_block (ks := [3]) (heap_alloc_new w1 _) 1 rfl (by simp), below_chain HC.out.below ((Below.refl _ _).alloc (Nat.le_refl _) _)⟩
set_option maxRecDepth 100000 in
set_option maxHeartbeats 4000000 in
theorem rreads_7 (W : World) (p : Pln) (hp : Small p) (at_ : Nat) (pos layer head row : Int) (hok : StpOk ⟨7, pos, layer, head, row⟩ at_) (hat : at_ ≤ 64) :
    Calls Try.prog 38 #[.agg (refC p).toArray, .agg #[.int .i64 7, .int .i64 pos, .int .i64 layer, .int .i64 head, .int .i64 row]] W (ReadsPost W (readsL p.places ⟨7, pos, layer, head, row⟩)) := by
  have hra := rrat_of W p 7 pos layer head row
  obtain ⟨w1, hw1⟩ : ∃ w1, w1 = (W.alloc (.cells (refC p).toArray 84)).alloc (.cells #[.int .i64 7, .int .i64 pos, .int .i64 layer, .int .i64 head, .int .i64 row] 88) := ⟨_, rfl⟩
  rw [← hw1] at hra
  have c0 : w1.cell? ⟨W.heap.size + 1, 0, none⟩ = some (.int .i64 7) := by rw [cell_of_row _ _ 0 _ _ _ hra.st]; rfl
  have c1 : w1.cell? ⟨W.heap.size + 1, 1, none⟩ = some (.int .i64 pos) := by rw [cell_of_row _ _ 1 _ _ _ hra.st]; rfl
  have c2 : w1.cell? ⟨W.heap.size + 1, 2, none⟩ = some (.int .i64 layer) := by rw [cell_of_row _ _ 2 _ _ _ hra.st]; rfl
  have c4 : w1.cell? ⟨W.heap.size + 1, 4, none⟩ = some (.int .i64 row) := by rw [cell_of_row _ _ 4 _ _ _ hra.st]; rfl
  have HW := Lib.hid hw1
  have HC := Lib.hid hra
  clear hw1 hra hok hp hat
  go_enter Try.func38, Try.ntmps38
  go_upto_region 1 with fail
  rw [← HW.out]
  go_wp2_with fail
  go_ret
  exact ⟨_, _, _, rfl, rfl, ints_block (ks := [4]) (heap_alloc_new w1 _) 1 rfl (by simp), below_chain HC.out.below ((Below.refl _ _).alloc (Nat.le_refl _) _)⟩
set_option maxRecDepth 100000 in
set_option maxHeartbeats 4000000 in
theorem rreads_8 (W : World) (p : Pln) (hp : Small p) (at_ : Nat) (pos layer head row : Int) (hok : StpOk ⟨8, pos, layer, head, row⟩ at_) (hat : at_ ≤ 64) :
    Calls Try.prog 38 #[.agg (refC p).toArray, .agg #[.int .i64 8, .int .i64 pos, .int .i64 layer, .int .i64 head, .int .i64 row]] W (ReadsPost W (readsL p.places ⟨8, pos, layer, head, row⟩)) := by
  have hra := rrat_of W p 8 pos layer head row
  obtain ⟨w1, hw1⟩ : ∃ w1, w1 = (W.alloc (.cells (refC p).toArray 84)).alloc (.cells #[.int .i64 8, .int .i64 pos, .int .i64 layer, .int .i64 head, .int .i64 row] 88) := ⟨_, rfl⟩
  rw [← hw1] at hra
  have c0 : w1.cell? ⟨W.heap.size + 1, 0, none⟩ = some (.int .i64 8) := by rw [cell_of_row _ _ 0 _ _ _ hra.st]; rfl
  have c1 : w1.cell? ⟨W.heap.size + 1, 1, none⟩ = some (.int .i64 pos) := by rw [cell_of_row _ _ 1 _ _ _ hra.st]; rfl
  have c2 : w1.cell? ⟨W.heap.size + 1, 2, none⟩ = some (.int .i64 layer) := by rw [cell_of_row _ _ 2 _ _ _ hra.st]; rfl
  have c4 : w1.cell? ⟨W.heap.size + 1, 4, none⟩ = some (.int .i64 row) := by rw [cell_of_row _ _ 4 _ _ _ hra.st]; rfl
  have HW := Lib.hid hw1
  have HC := Lib.hid hra
  clear hw1 hra hok hp hat
  go_enter Try.func38, Try.ntmps38
  go_upto_region 1 with fail
  rw [← HW.out]
  go_wp2_with fail
  go_ret
  exact ⟨_, _, _, rfl, rfl, ints_block (ks := [5]) (heap_alloc_new w1 _) 1 rfl (by simp), below_chain HC.out.below ((Below.refl _ _).alloc (Nat.le_refl _) _)⟩
set_option maxRecDepth 100000 in
set_option maxHeartbeats 4000000 in
theorem rreads_9 (W : World) (p : Pln) (hp : Small p) (at_ : Nat) (pos layer head row : Int) (hok : StpOk ⟨9, pos, layer, head, row⟩ at_) (hat : at_ ≤ 64) :
    Calls Try.prog 38 #[.agg (refC p).toArray, .agg #[.int .i64 9, .int .i64 pos, .int .i64 layer, .int .i64 head, .int .i64 row]] W (ReadsPost W (readsL p.places ⟨9, pos, layer, head, row⟩)) := by
  have hra := rrat_of W p 9 pos layer head row
  obtain ⟨w1, hw1⟩ : ∃ w1, w1 = (W.alloc (.cells (refC p).toArray 84)).alloc (.cells #[.int .i64 9, .int .i64 pos, .int .i64 layer, .int .i64 head, .int .i64 row] 88) := ⟨_, rfl⟩
  rw [← hw1] at hra
  obtain ⟨kv, hkv⟩ : ∃ kv, kv = keyV p.places layer row := ⟨_, rfl⟩
  have hky := fun w => rkey_any w p hp layer row hok.layer (by exact hok.row)
  have hkb : 0 ≤ kv ∧ kv ≤ 100000 := by
    have := key_bound (l := layer) hp.places.2 hok.layer
    have h2 : 0 ≤ row ∧ row ≤ 512 := by exact hok.row
    rw [hkv]
    unfold keyV
    omega
  rw [← hkv] at hky
  have hrl : readsL p.places ⟨9, pos, layer, head, row⟩ = [3, kv, 7] := by rw [hkv]; rfl
  rw [hrl]
  have HK := Lib.hid hky
  clear hky hkv hrl
  have c0 : w1.cell? ⟨W.heap.size + 1, 0, none⟩ = some (.int .i64 9) := by rw [cell_of_row _ _ 0 _ _ _ hra.st]; rfl
  have c1 : w1.cell? ⟨W.heap.size + 1, 1, none⟩ = some (.int .i64 pos) := by rw [cell_of_row _ _ 1 _ _ _ hra.st]; rfl
  have c2 : w1.cell? ⟨W.heap.size + 1, 2, none⟩ = some (.int .i64 layer) := by rw [cell_of_row _ _ 2 _ _ _ hra.st]; rfl
  have c4 : w1.cell? ⟨W.heap.size + 1, 4, none⟩ = some (.int .i64 row) := by rw [cell_of_row _ _ 4 _ _ _ hra.st]; rfl
  have HW := Lib.hid hw1
  have HC := Lib.hid hra
  clear hw1 hra hok hp hat
  go_enter Try.func38, Try.ntmps38
  go_upto_region 1 with fail
  rw [← HW.out]
  go_wp2_with (first | (refine wpList_load_mid rfl 84 (.tmp 2) rfl W.heap.size 0 rfl (refC p) _ (rangeAt_whole HC.out.pl) Try.underlying84 rfl ref_size ?_; simp only [Act.put, List.setIfInBounds_toArray, List.set_cons_succ, List.set_cons_zero]) | (go_at_call 87; (with_reducible refine Calls.mono (HK.out w1) ?_); rintro e w3 ⟨rfl, hb3⟩; have H3 := Lib.hid hb3; clear hb3))
  go_ret
  exact ⟨_, _, _, rfl, rfl, ints_block (ks := [3, kv, 7]) (heap_alloc_new w3 _) 3 rfl (by simp), below_chain HC.out.below (below_chain H3.out ((Below.refl _ _).alloc (Nat.le_refl _) _))⟩
set_option maxRecDepth 100000 in
set_option maxHeartbeats 4000000 in
theorem rreads_10 (W : World) (p : Pln) (hp : Small p) (at_ : Nat) (pos layer head row : Int) (hok : StpOk ⟨10, pos, layer, head, row⟩ at_) (hat : at_ ≤ 64) :
    Calls Try.prog 38 #[.agg (refC p).toArray, .agg #[.int .i64 10, .int .i64 pos, .int .i64 layer, .int .i64 head, .int .i64 row]] W (ReadsPost W (readsL p.places ⟨10, pos, layer, head, row⟩)) := by
  have hra := rrat_of W p 10 pos layer head row
  obtain ⟨w1, hw1⟩ : ∃ w1, w1 = (W.alloc (.cells (refC p).toArray 84)).alloc (.cells #[.int .i64 10, .int .i64 pos, .int .i64 layer, .int .i64 head, .int .i64 row] 88) := ⟨_, rfl⟩
  rw [← hw1] at hra
  have c0 : w1.cell? ⟨W.heap.size + 1, 0, none⟩ = some (.int .i64 10) := by rw [cell_of_row _ _ 0 _ _ _ hra.st]; rfl
  have c1 : w1.cell? ⟨W.heap.size + 1, 1, none⟩ = some (.int .i64 pos) := by rw [cell_of_row _ _ 1 _ _ _ hra.st]; rfl
  have c2 : w1.cell? ⟨W.heap.size + 1, 2, none⟩ = some (.int .i64 layer) := by rw [cell_of_row _ _ 2 _ _ _ hra.st]; rfl
  have c4 : w1.cell? ⟨W.heap.size + 1, 4, none⟩ = some (.int .i64 row) := by rw [cell_of_row _ _ 4 _ _ _ hra.st]; rfl
  have HW := Lib.hid hw1
  have HC := Lib.hid hra
  clear hw1 hra hok hp hat
  go_enter Try.func38, Try.ntmps38
  go_upto_region 1 with fail
  rw [← HW.out]
  go_wp2_with fail
  go_ret
  exact ⟨_, _, _, rfl, rfl, ints_block (ks := [7]) (heap_alloc_new w1 _) 1 rfl (by simp), below_chain HC.out.below ((Below.refl _ _).alloc (Nat.le_refl _) _)⟩
set_option maxRecDepth 100000 in
set_option maxHeartbeats 4000000 in
theorem rreads_11 (W : World) (p : Pln) (hp : Small p) (at_ : Nat) (pos layer head row : Int) (hok : StpOk ⟨11, pos, layer, head, row⟩ at_) (hat : at_ ≤ 64) :
    Calls Try.prog 38 #[.agg (refC p).toArray, .agg #[.int .i64 11, .int .i64 pos, .int .i64 layer, .int .i64 head, .int .i64 row]] W (ReadsPost W (readsL p.places ⟨11, pos, layer, head, row⟩)) := by
  have hra := rrat_of W p 11 pos layer head row
  obtain ⟨w1, hw1⟩ : ∃ w1, w1 = (W.alloc (.cells (refC p).toArray 84)).alloc (.cells #[.int .i64 11, .int .i64 pos, .int .i64 layer, .int .i64 head, .int .i64 row] 88) := ⟨_, rfl⟩
  rw [← hw1] at hra
  obtain ⟨PL, hPL⟩ : ∃ PL, PL = p.places := ⟨_, rfl⟩
  have hky := fun w (i : Nat) (hi : i ≤ 512) => rkey_any w p hp layer (i : Int) hok.layer (by omega)
  rw [← hPL] at hky ⊢
  have hpos := hok.pos
  simp only at hpos
  have hrl : readsL PL ⟨11, pos, layer, head, row⟩ = [7, 6] ++ keysL PL layer (at_ + 1) := by
    unfold readsL
    rw [if_neg (by simp), if_pos rfl, hpos, Int.toNat_natCast]
  rw [hrl]
  have HK := Lib.hid (And.intro hky (And.intro (by rw [hPL]; exact hp.places.2 : PL ≤ 64) hok.layer))
  have ha9 := hat
  have HP9 := Lib.hid hpos
  clear hky hPL hrl hpos
  have c0 : w1.cell? ⟨W.heap.size + 1, 0, none⟩ = some (.int .i64 11) := by rw [cell_of_row _ _ 0 _ _ _ hra.st]; rfl
  have c1 : w1.cell? ⟨W.heap.size + 1, 1, none⟩ = some (.int .i64 pos) := by rw [cell_of_row _ _ 1 _ _ _ hra.st]; rfl
  have c2 : w1.cell? ⟨W.heap.size + 1, 2, none⟩ = some (.int .i64 layer) := by rw [cell_of_row _ _ 2 _ _ _ hra.st]; rfl
  have c4 : w1.cell? ⟨W.heap.size + 1, 4, none⟩ = some (.int .i64 row) := by rw [cell_of_row _ _ 4 _ _ _ hra.st]; rfl
  have HW := Lib.hid hw1
  have HC := Lib.hid hra
  clear hw1 hra hok hp hat
  go_enter Try.func38, Try.ntmps38
  go_upto_region 1 with fail
  rw [← HW.out]
  go_upto_region 26 with fail
  obtain ⟨w3, hw3⟩ : ∃ w3, w3 = w1.alloc (.cells #[.int .i64 7, .int .i64 6] 3) := ⟨_, rfl⟩
  have hb3 : Below w1.heap.size w1 w3 := by rw [hw3]; exact (Below.refl _ _).alloc (Nat.le_refl _) _
  have ho3 : Owns w3 w1.heap.size 1 (.slice (some ⟨w1.heap.size, 0, none⟩) 2 2) 2 (intsV [7, 6]) := by
    rw [hw3]
    exact Owns.whole (heap_alloc_new w1 _) (Nat.le_refl _) rfl (by unfold maxLen; omega)
  rw [← hw3]
  have H3 := Lib.hid (And.intro ho3 hb3)
  clear ho3 hb3 hw3 c0 c1 c2 c4
  go_wp2_with fail
  go_loopw [5, 6] (fun v5 v28 wr => ∃ (i : Nat) (A : Option Addr) (N c : Nat), i ≤ at_ + 1 ∧ v5 = .slice A N c ∧ v28 = .int .i64 (i : Int) ∧ N ≤ 2 + i ∧ Hid (N = 2 + i ∧ Owns wr w1.heap.size 1 (.slice A N c) N (intsV ([7, 6] ++ keysL PL layer i)) ∧ Below w1.heap.size w1 wr)) (fun _ v28 _ => at_ + 1 - (intOf v28).toNat)
  case atStart => exact ⟨0, _, 2, 2, Nat.zero_le _, rfl, rfl, by omega, Lib.hid ⟨rfl, H3.out.1, H3.out.2⟩⟩
  case round =>
    obtain ⟨i, A, N, c, hi, rfl, rfl, hNb, hI⟩ := hrel
    have c1 : wr.cell? ⟨W.heap.size + 1, 1, none⟩ = some (.int .i64 pos) := by rw [cell_of_row _ _ 1 _ _ _ ((hI.out.2.2.block _ (Array.getElem?_eq_some_iff.1 HC.out.st).1).trans HC.out.st)]; rfl
    have c2 : wr.cell? ⟨W.heap.size + 1, 2, none⟩ = some (.int .i64 layer) := by rw [cell_of_row _ _ 2 _ _ _ ((hI.out.2.2.block _ (Array.getElem?_eq_some_iff.1 HC.out.st).1).trans HC.out.st)]; rfl
    by_cases hlt : i ≤ at_
    · have i1 : (i : Int) ≤ pos := by have := HP9.out; omega
      have i2 : (i : Int) ≤ 65 := by omega
      have hky := HK.out.1 wr i (by omega)
      obtain ⟨kv, hkv⟩ : ∃ kv, kv = keyV PL layer (i : Int) := ⟨_, rfl⟩
      have hkb : 0 ≤ kv ∧ kv ≤ 100000 := by
        have := key_bound HK.out.2.1 HK.out.2.2
        rw [hkv]
        unfold keyV
        omega
      rw [← hkv] at hky
      have HY := Lib.hid (And.intro hky (And.intro hkv ((hI.out.2.2.block _ (Array.getElem?_eq_some_iff.1 HC.out.pl).1).trans HC.out.pl)))
      clear hky hkv
      go_wp2_with (first | (refine wpList_load_mid rfl 84 (.tmp 2) rfl W.heap.size 0 rfl (refC p) _ (rangeAt_whole HY.out.2.2) Try.underlying84 rfl ref_size ?_; simp only [Act.put, List.setIfInBounds_toArray, List.set_cons_succ, List.set_cons_zero]) | (go_at_call 87; (with_reducible refine Calls.mono HY.out.1 ?_); rintro e w4 ⟨rfl, hb4⟩; have ho4 := hI.out.2.1.same (fun b hb => hb4.block b (hI.out.2.1.lt b hb).2) hb4.size; have H4 := Lib.hid (And.intro (ho4.alloc (.cells #[.int .i64 (kv + 1)] 3)) (And.intro hb4 (ints_block (ks := [kv + 1]) (heap_alloc_new w4 _) 1 rfl (by simp)))); clear ho4 hb4) | (at_builtin; refine wpList_append rfl (.tmp 56) (.tmp 63) 26 26 rfl w1.heap.size 3 _ 1 8 Try.underlying26 infoI _ N (intsV ([7, 6] ++ keysL PL layer i)) rfl (by exact H4.out.1) _ 1 (intsV [kv + 1]) rfl (by exact src_of_sees _ Try.underlying26 H4.out.2.2 (intsV_one _)) (by unfold maxLen; omega) (by omega) (by rw [World.size_alloc]; have := H4.out.2.1.size; have := hI.out.2.2.size; omega) ?_; intro A7 c7 w7 hown hg hbl; have H7 := Lib.hid (And.intro hown hg); clear hown hg hbl))
      go_roundw
      case rel =>
        refine ⟨i + 1, A7, N + 1, c7, by omega, by go_num, by go_num, by omega, Lib.hid ⟨by have := hI.out.1; omega, ?_, ?_⟩⟩
        · have h7 := H7.out.1
          rw [keysL_succ, ← List.append_assoc, ← HY.out.2.1]
          rw [← intsV_append] at h7
          exact h7
        · have hb9 := (below_chain hI.out.2.2 H4.out.2.1).alloc (below_chain hI.out.2.2 H4.out.2.1).size (.cells #[.int .i64 (kv + 1)] 3)
          exact hb9.grown H7.out.2 hb9.size (fun k e => by have := (H4.out.1.lt k e).1; omega)
      case measure => simp [intOf]; omega
    · have i1 : ¬ (i : Int) ≤ pos := by have := HP9.out; omega
      obtain rfl : at_ + 1 = i := by omega
      have i2 : pos < ((at_ + 1 : Nat) : Int) := by omega
      go_wp2_with fail
      go_ret
      have h1 := hI.out.2.1.sees
      have hl : N = ([7, 6] ++ keysL PL layer (at_ + 1)).length := by rw [List.length_append, keysL_length]; exact hI.out.1
      refine ⟨A, N, c, rfl, hl, ?_, below_chain HC.out.below hI.out.2.2⟩
      show Sees wr 1 (.slice A N c) ([7, 6] ++ keysL PL layer (at_ + 1)).length (intsV ([7, 6] ++ keysL PL layer (at_ + 1)))
      rw [← hl]
      exact h1
set_option maxRecDepth 100000 in
set_option maxHeartbeats 4000000 in
theorem rreads_12 (W : World) (p : Pln) (hp : Small p) (at_ : Nat) (pos layer head row : Int) (hok : StpOk ⟨12, pos, layer, head, row⟩ at_) (hat : at_ ≤ 64) :
    Calls Try.prog 38 #[.agg (refC p).toArray, .agg #[.int .i64 12, .int .i64 pos, .int .i64 layer, .int .i64 head, .int .i64 row]] W (ReadsPost W (readsL p.places ⟨12, pos, layer, head, row⟩)) := by
  have hra := rrat_of W p 12 pos layer head row
  obtain ⟨w1, hw1⟩ : ∃ w1, w1 = (W.alloc (.cells (refC p).toArray 84)).alloc (.cells #[.int .i64 12, .int .i64 pos, .int .i64 layer, .int .i64 head, .int .i64 row] 88) := ⟨_, rfl⟩
  rw [← hw1] at hra
  have c0 : w1.cell? ⟨W.heap.size + 1, 0, none⟩ = some (.int .i64 12) := by rw [cell_of_row _ _ 0 _ _ _ hra.st]; rfl
  have c1 : w1.cell? ⟨W.heap.size + 1, 1, none⟩ = some (.int .i64 pos) := by rw [cell_of_row _ _ 1 _ _ _ hra.st]; rfl
  have c2 : w1.cell? ⟨W.heap.size + 1, 2, none⟩ = some (.int .i64 layer) := by rw [cell_of_row _ _ 2 _ _ _ hra.st]; rfl
  have c4 : w1.cell? ⟨W.heap.size + 1, 4, none⟩ = some (.int .i64 row) := by rw [cell_of_row _ _ 4 _ _ _ hra.st]; rfl
  have HW := Lib.hid hw1
  have HC := Lib.hid hra
  clear hw1 hra hok hp hat
  go_enter Try.func38, Try.ntmps38
  go_upto_region 1 with fail
  rw [← HW.out]
  go_wp2_with fail
  go_ret
  exact ⟨_, _, _, rfl, rfl, ints_block (ks := [6, 10]) (heap_alloc_new w1 _) 2 rfl (by simp), below_chain HC.out.below ((Below.refl _ _).alloc (Nat.le_refl _) _)⟩
set_option maxRecDepth 100000 in
set_option maxHeartbeats 4000000 in
theorem rreads_13 (W : World) (p : Pln) (hp : Small p) (at_ : Nat) (pos layer head row : Int) (hok : StpOk ⟨13, pos, layer, head, row⟩ at_) (hat : at_ ≤ 64) :
    Calls Try.prog 38 #[.agg (refC p).toArray, .agg #[.int .i64 13, .int .i64 pos, .int .i64 layer, .int .i64 head, .int .i64 row]] W (ReadsPost W (readsL p.places ⟨13, pos, layer, head, row⟩)) := by
  have hra := rrat_of W p 13 pos layer head row
  obtain ⟨w1, hw1⟩ : ∃ w1, w1 = (W.alloc (.cells (refC p).toArray 84)).alloc (.cells #[.int .i64 13, .int .i64 pos, .int .i64 layer, .int .i64 head, .int .i64 row] 88) := ⟨_, rfl⟩
  rw [← hw1] at hra
  have c0 : w1.cell? ⟨W.heap.size + 1, 0, none⟩ = some (.int .i64 13) := by rw [cell_of_row _ _ 0 _ _ _ hra.st]; rfl
  have c1 : w1.cell? ⟨W.heap.size + 1, 1, none⟩ = some (.int .i64 pos) := by rw [cell_of_row _ _ 1 _ _ _ hra.st]; rfl
  have c2 : w1.cell? ⟨W.heap.size + 1, 2, none⟩ = some (.int .i64 layer) := by rw [cell_of_row _ _ 2 _ _ _ hra.st]; rfl
  have c4 : w1.cell? ⟨W.heap.size + 1, 4, none⟩ = some (.int .i64 row) := by rw [cell_of_row _ _ 4 _ _ _ hra.st]; rfl
  have HW := Lib.hid hw1
  have HC := Lib.hid hra
  clear hw1 hra hok hp hat
  go_enter Try.func38, Try.ntmps38
  go_upto_region 1 with fail
  rw [← HW.out]
  go_wp2_with fail
  go_ret
  exact ⟨_, _, _, rfl, rfl, ints_block (ks := [1, 10]) (heap_alloc_new w1 _) 2 rfl (by simp), below_chain HC.out.below ((Below.refl _ _).alloc (Nat.le_refl _) _)⟩
set_option maxRecDepth 100000 in
set_option maxHeartbeats 4000000 in
theorem rreads_14 (W : World) (p : Pln) (hp : Small p) (at_ : Nat) (pos layer head row : Int) (hok : StpOk ⟨14, pos, layer, head, row⟩ at_) (hat : at_ ≤ 64) :
    Calls Try.prog 38 #[.agg (refC p).toArray, .agg #[.int .i64 14, .int .i64 pos, .int .i64 layer, .int .i64 head, .int .i64 row]] W (ReadsPost W (readsL p.places ⟨14, pos, layer, head, row⟩)) := by
  have hra := rrat_of W p 14 pos layer head row
  obtain ⟨w1, hw1⟩ : ∃ w1, w1 = (W.alloc (.cells (refC p).toArray 84)).alloc (.cells #[.int .i64 14, .int .i64 pos, .int .i64 layer, .int .i64 head, .int .i64 row] 88) := ⟨_, rfl⟩
  rw [← hw1] at hra
  have c0 : w1.cell? ⟨W.heap.size + 1, 0, none⟩ = some (.int .i64 14) := by rw [cell_of_row _ _ 0 _ _ _ hra.st]; rfl
  have c1 : w1.cell? ⟨W.heap.size + 1, 1, none⟩ = some (.int .i64 pos) := by rw [cell_of_row _ _ 1 _ _ _ hra.st]; rfl
  have c2 : w1.cell? ⟨W.heap.size + 1, 2, none⟩ = some (.int .i64 layer) := by rw [cell_of_row _ _ 2 _ _ _ hra.st]; rfl
  have c4 : w1.cell? ⟨W.heap.size + 1, 4, none⟩ = some (.int .i64 row) := by rw [cell_of_row _ _ 4 _ _ _ hra.st]; rfl
  have HW := Lib.hid hw1
  have HC := Lib.hid hra
  clear hw1 hra hok hp hat
  go_enter Try.func38, Try.ntmps38
  go_upto_region 1 with fail
  rw [← HW.out]
  go_wp2_with fail
  go_ret
  exact ⟨_, _, _, rfl, rfl, ints_block (ks := [1]) (heap_alloc_new w1 _) 1 rfl (by simp), below_chain HC.out.below ((Below.refl _ _).alloc (Nat.le_refl _) _)⟩
set_option maxRecDepth 100000 in
set_option maxHeartbeats 4000000 in
theorem rreads_15 (W : World) (p : Pln) (hp : Small p) (at_ : Nat) (pos layer head row : Int) (hok : StpOk ⟨15, pos, layer, head, row⟩ at_) (hat : at_ ≤ 64) :
    Calls Try.prog 38 #[.agg (refC p).toArray, .agg #[.int .i64 15, .int .i64 pos, .int .i64 layer, .int .i64 head, .int .i64 row]] W (ReadsPost W (readsL p.places ⟨15, pos, layer, head, row⟩)) := by
  have hra := rrat_of W p 15 pos layer head row
  obtain ⟨w1, hw1⟩ : ∃ w1, w1 = (W.alloc (.cells (refC p).toArray 84)).alloc (.cells #[.int .i64 15, .int .i64 pos, .int .i64 layer, .int .i64 head, .int .i64 row] 88) := ⟨_, rfl⟩
  rw [← hw1] at hra
  have c0 : w1.cell? ⟨W.heap.size + 1, 0, none⟩ = some (.int .i64 15) := by rw [cell_of_row _ _ 0 _ _ _ hra.st]; rfl
  have c1 : w1.cell? ⟨W.heap.size + 1, 1, none⟩ = some (.int .i64 pos) := by rw [cell_of_row _ _ 1 _ _ _ hra.st]; rfl
  have c2 : w1.cell? ⟨W.heap.size + 1, 2, none⟩ = some (.int .i64 layer) := by rw [cell_of_row _ _ 2 _ _ _ hra.st]; rfl
  have c4 : w1.cell? ⟨W.heap.size + 1, 4, none⟩ = some (.int .i64 row) := by rw [cell_of_row _ _ 4 _ _ _ hra.st]; rfl
  have HW := Lib.hid hw1
  have HC := Lib.hid hra
  clear hw1 hra hok hp hat
  go_enter Try.func38, Try.ntmps38
  go_upto_region 1 with fail
  rw [← HW.out]
  go_wp2_with fail
  go_ret
  exact ⟨_, _, _, rfl, rfl, ints_block (ks := [2, 8]) (heap_alloc_new w1 _) 2 rfl (by simp), below_chain HC.out.below ((Below.refl _ _).alloc (Nat.le_refl _) _)⟩
set_option maxRecDepth 100000 in
set_option maxHeartbeats 4000000 in
theorem rreads_16 (W : World) (p : Pln) (hp : Small p) (at_ : Nat) (pos layer head row : Int) (hok : StpOk ⟨16, pos, layer, head, row⟩ at_) (hat : at_ ≤ 64) :
    Calls Try.prog 38 #[.agg (refC p).toArray, .agg #[.int .i64 16, .int .i64 pos, .int .i64 layer, .int .i64 head, .int .i64 row]] W (ReadsPost W (readsL p.places ⟨16, pos, layer, head, row⟩)) := by
  have hra := rrat_of W p 16 pos layer head row
  obtain ⟨w1, hw1⟩ : ∃ w1, w1 = (W.alloc (.cells (refC p).toArray 84)).alloc (.cells #[.int .i64 16, .int .i64 pos, .int .i64 layer, .int .i64 head, .int .i64 row] 88) := ⟨_, rfl⟩
  rw [← hw1] at hra
  have c0 : w1.cell? ⟨W.heap.size + 1, 0, none⟩ = some (.int .i64 16) := by rw [cell_of_row _ _ 0 _ _ _ hra.st]; rfl
  have c1 : w1.cell? ⟨W.heap.size + 1, 1, none⟩ = some (.int .i64 pos) := by rw [cell_of_row _ _ 1 _ _ _ hra.st]; rfl
  have c2 : w1.cell? ⟨W.heap.size + 1, 2, none⟩ = some (.int .i64 layer) := by rw [cell_of_row _ _ 2 _ _ _ hra.st]; rfl
  have c4 : w1.cell? ⟨W.heap.size + 1, 4, none⟩ = some (.int .i64 row) := by rw [cell_of_row _ _ 4 _ _ _ hra.st]; rfl
  have HW := Lib.hid hw1
  have HC := Lib.hid hra
  clear hw1 hra hok hp hat
  go_enter Try.func38, Try.ntmps38
  go_upto_region 1 with fail
  rw [← HW.out]
  go_wp2_with fail
  go_ret
  exact ⟨_, _, _, rfl, rfl, ints_block (ks := [8]) (heap_alloc_new w1 _) 1 rfl (by simp), below_chain HC.out.below ((Below.refl _ _).alloc (Nat.le_refl _) _)⟩
set_option maxRecDepth 100000 in
set_option maxHeartbeats 4000000 in
theorem rreads_17 (W : World) (p : Pln) (hp : Small p) (at_ : Nat) (pos layer head row : Int) (hok : StpOk ⟨17, pos, layer, head, row⟩ at_) (hat : at_ ≤ 64) :
    Calls Try.prog 38 #[.agg (refC p).toArray, .agg #[.int .i64 17, .int .i64 pos, .int .i64 layer, .int .i64 head, .int .i64 row]] W (ReadsPost W (readsL p.places ⟨17, pos, layer, head, row⟩)) := by
  have hra := rrat_of W p 17 pos layer head row
  obtain ⟨w1, hw1⟩ : ∃ w1, w1 = (W.alloc (.cells (refC p).toArray 84)).alloc (.cells #[.int .i64 17, .int .i64 pos, .int .i64 layer, .int .i64 head, .int .i64 row] 88) := ⟨_, rfl⟩
  rw [← hw1] at hra
  have c0 : w1.cell? ⟨W.heap.size + 1, 0, none⟩ = some (.int .i64 17) := by rw [cell_of_row _ _ 0 _ _ _ hra.st]; rfl
  have c1 : w1.cell? ⟨W.heap.size + 1, 1, none⟩ = some (.int .i64 pos) := by rw [cell_of_row _ _ 1 _ _ _ hra.st]; rfl
  have c2 : w1.cell? ⟨W.heap.size + 1, 2, none⟩ = some (.int .i64 layer) := by rw [cell_of_row _ _ 2 _ _ _ hra.st]; rfl
  have c4 : w1.cell? ⟨W.heap.size + 1, 4, none⟩ = some (.int .i64 row) := by rw [cell_of_row _ _ 4 _ _ _ hra.st]; rfl
  have HW := Lib.hid hw1
  have HC := Lib.hid hra
  clear hw1 hra hok hp hat
  go_enter Try.func38, Try.ntmps38
  go_upto_region 1 with fail
  rw [← HW.out]
  go_wp2_with fail
  go_ret
  exact ⟨_, _, _, rfl, rfl, ints_block (ks := [2, 9]) (heap_alloc_new w1 _) 2 rfl (by simp), below_chain HC.out.below ((Below.refl _ _).alloc (Nat.le_refl _) _)⟩
set_option maxRecDepth 100000 in
set_option maxHeartbeats 4000000 in
theorem rreads_18 (W : World) (p : Pln) (hp : Small p) (at_ : Nat) (pos layer head row : Int) (hok : StpOk ⟨18, pos, layer, head, row⟩ at_) (hat : at_ ≤ 64) :
    Calls Try.prog 38 #[.agg (refC p).toArray, .agg #[.int .i64 18, .int .i64 pos, .int .i64 layer, .int .i64 head, .int .i64 row]] W (ReadsPost W (readsL p.places ⟨18, pos, layer, head, row⟩)) := by
  have hra := rrat_of W p 18 pos layer head row
  obtain ⟨w1, hw1⟩ : ∃ w1, w1 = (W.alloc (.cells (refC p).toArray 84)).alloc (.cells #[.int .i64 18, .int .i64 pos, .int .i64 layer, .int .i64 head, .int .i64 row] 88) := ⟨_, rfl⟩
  rw [← hw1] at hra
  have c0 : w1.cell? ⟨W.heap.size + 1, 0, none⟩ = some (.int .i64 18) := by rw [cell_of_row _ _ 0 _ _ _ hra.st]; rfl
  have c1 : w1.cell? ⟨W.heap.size + 1, 1, none⟩ = some (.int .i64 pos) := by rw [cell_of_row _ _ 1 _ _ _ hra.st]; rfl
  have c2 : w1.cell? ⟨W.heap.size + 1, 2, none⟩ = some (.int .i64 layer) := by rw [cell_of_row _ _ 2 _ _ _ hra.st]; rfl
  have c4 : w1.cell? ⟨W.heap.size + 1, 4, none⟩ = some (.int .i64 row) := by rw [cell_of_row _ _ 4 _ _ _ hra.st]; rfl
  have HW := Lib.hid hw1
  have HC := Lib.hid hra
  clear hw1 hra hok hp hat
  go_enter Try.func38, Try.ntmps38
  go_upto_region 1 with fail
  rw [← HW.out]
  go_wp2_with fail
  go_ret
  exact ⟨_, _, _, rfl, rfl, ints_block (ks := [8, 9]) (heap_alloc_new w1 _) 2 rfl (by simp), below_chain HC.out.below ((Below.refl _ _).alloc (Nat.le_refl _) _)⟩
set_option maxRecDepth 100000 in
set_option maxHeartbeats 4000000 in
theorem rreads_19 (W : World) (p : Pln) (hp : Small p) (at_ : Nat) (pos layer head row : Int) (hok : StpOk ⟨19, pos, layer, head, row⟩ at_) (hat : at_ ≤ 64) :
    Calls Try.prog 38 #[.agg (refC p).toArray, .agg #[.int .i64 19, .int .i64 pos, .int .i64 layer, .int .i64 head, .int .i64 row]] W (ReadsPost W (readsL p.places ⟨19, pos, layer, head, row⟩)) := by
  have hra := rrat_of W p 19 pos layer head row
  obtain ⟨w1, hw1⟩ : ∃ w1, w1 = (W.alloc (.cells (refC p).toArray 84)).alloc (.cells #[.int .i64 19, .int .i64 pos, .int .i64 layer, .int .i64 head, .int .i64 row] 88) := ⟨_, rfl⟩
  rw [← hw1] at hra
  have c0 : w1.cell? ⟨W.heap.size + 1, 0, none⟩ = some (.int .i64 19) := by rw [cell_of_row _ _ 0 _ _ _ hra.st]; rfl
  have c1 : w1.cell? ⟨W.heap.size + 1, 1, none⟩ = some (.int .i64 pos) := by rw [cell_of_row _ _ 1 _ _ _ hra.st]; rfl
  have c2 : w1.cell? ⟨W.heap.size + 1, 2, none⟩ = some (.int .i64 layer) := by rw [cell_of_row _ _ 2 _ _ _ hra.st]; rfl
  have c4 : w1.cell? ⟨W.heap.size + 1, 4, none⟩ = some (.int .i64 row) := by rw [cell_of_row _ _ 4 _ _ _ hra.st]; rfl
  have HW := Lib.hid hw1
  have HC := Lib.hid hra
  clear hw1 hra hok hp hat
  go_enter Try.func38, Try.ntmps38
  go_upto_region 1 with fail
  rw [← HW.out]
  go_wp2_with fail
  go_ret
  exact ⟨_, _, _, rfl, rfl, ints_block (ks := [8, 10]) (heap_alloc_new w1 _) 2 rfl (by simp), below_chain HC.out.below ((Below.refl _ _).alloc (Nat.le_refl _) _)⟩
set_option maxRecDepth 100000 in
set_option maxHeartbeats 4000000 in
theorem rreads_20 (W : World) (p : Pln) (hp : Small p) (at_ : Nat) (pos layer head row : Int) (hok : StpOk ⟨20, pos, layer, head, row⟩ at_) (hat : at_ ≤ 64) :
    Calls Try.prog 38 #[.agg (refC p).toArray, .agg #[.int .i64 20, .int .i64 pos, .int .i64 layer, .int .i64 head, .int .i64 row]] W (ReadsPost W (readsL p.places ⟨20, pos, layer, head, row⟩)) := by
  have hra := rrat_of W p 20 pos layer head row
  obtain ⟨w1, hw1⟩ : ∃ w1, w1 = (W.alloc (.cells (refC p).toArray 84)).alloc (.cells #[.int .i64 20, .int .i64 pos, .int .i64 layer, .int .i64 head, .int .i64 row] 88) := ⟨_, rfl⟩
  rw [← hw1] at hra
  have c0 : w1.cell? ⟨W.heap.size + 1, 0, none⟩ = some (.int .i64 20) := by rw [cell_of_row _ _ 0 _ _ _ hra.st]; rfl
  have c1 : w1.cell? ⟨W.heap.size + 1, 1, none⟩ = some (.int .i64 pos) := by rw [cell_of_row _ _ 1 _ _ _ hra.st]; rfl
  have c2 : w1.cell? ⟨W.heap.size + 1, 2, none⟩ = some (.int .i64 layer) := by rw [cell_of_row _ _ 2 _ _ _ hra.st]; rfl
  have c4 : w1.cell? ⟨W.heap.size + 1, 4, none⟩ = some (.int .i64 row) := by rw [cell_of_row _ _ 4 _ _ _ hra.st]; rfl
  have HW := Lib.hid hw1
  have HC := Lib.hid hra
  clear hw1 hra hok hp hat
  go_enter Try.func38, Try.ntmps38
  go_upto_region 1 with fail
  rw [← HW.out]
  go_wp2_with fail
  go_ret
  exact ⟨_, _, _, rfl, rfl, ints_block (ks := [1, 10]) (heap_alloc_new w1 _) 2 rfl (by simp), below_chain HC.out.below ((Below.refl _ _).alloc (Nat.le_refl _) _)⟩
set_option maxRecDepth 100000 in
set_option maxHeartbeats 4000000 in
theorem rreads_21 (W : World) (p : Pln) (hp : Small p) (at_ : Nat) (pos layer head row : Int) (hok : StpOk ⟨21, pos, layer, head, row⟩ at_) (hat : at_ ≤ 64) :
    Calls Try.prog 38 #[.agg (refC p).toArray, .agg #[.int .i64 21, .int .i64 pos, .int .i64 layer, .int .i64 head, .int .i64 row]] W (ReadsPost W (readsL p.places ⟨21, pos, layer, head, row⟩)) := by
  have hra := rrat_of W p 21 pos layer head row
  obtain ⟨w1, hw1⟩ : ∃ w1, w1 = (W.alloc (.cells (refC p).toArray 84)).alloc (.cells #[.int .i64 21, .int .i64 pos, .int .i64 layer, .int .i64 head, .int .i64 row] 88) := ⟨_, rfl⟩
  rw [← hw1] at hra
  have c0 : w1.cell? ⟨W.heap.size + 1, 0, none⟩ = some (.int .i64 21) := by rw [cell_of_row _ _ 0 _ _ _ hra.st]; rfl
  have c1 : w1.cell? ⟨W.heap.size + 1, 1, none⟩ = some (.int .i64 pos) := by rw [cell_of_row _ _ 1 _ _ _ hra.st]; rfl
  have c2 : w1.cell? ⟨W.heap.size + 1, 2, none⟩ = some (.int .i64 layer) := by rw [cell_of_row _ _ 2 _ _ _ hra.st]; rfl
  have c4 : w1.cell? ⟨W.heap.size + 1, 4, none⟩ = some (.int .i64 row) := by rw [cell_of_row _ _ 4 _ _ _ hra.st]; rfl
  have HW := Lib.hid hw1
  have HC := Lib.hid hra
  clear hw1 hra hok hp hat
  go_enter Try.func38, Try.ntmps38
  go_upto_region 1 with fail
  rw [← HW.out]
  go_wp2_with fail
  go_ret
  exact ⟨_, _, _, rfl, rfl, ints_block (ks := [1]) (heap_alloc_new w1 _) 1 rfl (by simp), below_chain HC.out.below ((Below.refl _ _).alloc (Nat.le_refl _) _)⟩
set_option maxRecDepth 100000 in
set_option maxHeartbeats 4000000 in
theorem rreads_22 (W : World) (p : Pln) (hp : Small p) (at_ : Nat) (pos layer head row : Int) (hok : StpOk ⟨22, pos, layer, head, row⟩ at_) (hat : at_ ≤ 64) :
    Calls Try.prog 38 #[.agg (refC p).toArray, .agg #[.int .i64 22, .int .i64 pos, .int .i64 layer, .int .i64 head, .int .i64 row]] W (ReadsPost W (readsL p.places ⟨22, pos, layer, head, row⟩)) := by
  have hra := rrat_of W p 22 pos layer head row
  obtain ⟨w1, hw1⟩ : ∃ w1, w1 = (W.alloc (.cells (refC p).toArray 84)).alloc (.cells #[.int .i64 22, .int .i64 pos, .int .i64 layer, .int .i64 head, .int .i64 row] 88) := ⟨_, rfl⟩
  rw [← hw1] at hra
  have c0 : w1.cell? ⟨W.heap.size + 1, 0, none⟩ = some (.int .i64 22) := by rw [cell_of_row _ _ 0 _ _ _ hra.st]; rfl
  have c1 : w1.cell? ⟨W.heap.size + 1, 1, none⟩ = some (.int .i64 pos) := by rw [cell_of_row _ _ 1 _ _ _ hra.st]; rfl
  have c2 : w1.cell? ⟨W.heap.size + 1, 2, none⟩ = some (.int .i64 layer) := by rw [cell_of_row _ _ 2 _ _ _ hra.st]; rfl
  have c4 : w1.cell? ⟨W.heap.size + 1, 4, none⟩ = some (.int .i64 row) := by rw [cell_of_row _ _ 4 _ _ _ hra.st]; rfl
  have HW := Lib.hid hw1
  have HC := Lib.hid hra
  clear hw1 hra hok hp hat
  go_enter Try.func38, Try.ntmps38
  go_upto_region 1 with fail
  rw [← HW.out]
  go_wp2_with fail
  go_ret
  exact ⟨_, _, _, rfl, rfl, ints_block (ks := [2, 11]) (heap_alloc_new w1 _) 2 rfl (by simp), below_chain HC.out.below ((Below.refl _ _).alloc (Nat.le_refl _) _)⟩
set_option maxRecDepth 100000 in
set_option maxHeartbeats 4000000 in
theorem rreads_23 (W : World) (p : Pln) (hp : Small p) (at_ : Nat) (pos layer head row : Int) (hok : StpOk ⟨23, pos, layer, head, row⟩ at_) (hat : at_ ≤ 64) :
    Calls Try.prog 38 #[.agg (refC p).toArray, .agg #[.int .i64 23, .int .i64 pos, .int .i64 layer, .int .i64 head, .int .i64 row]] W (ReadsPost W (readsL p.places ⟨23, pos, layer, head, row⟩)) := by
  have hra := rrat_of W p 23 pos layer head row
  obtain ⟨w1, hw1⟩ : ∃ w1, w1 = (W.alloc (.cells (refC p).toArray 84)).alloc (.cells #[.int .i64 23, .int .i64 pos, .int .i64 layer, .int .i64 head, .int .i64 row] 88) := ⟨_, rfl⟩
  rw [← hw1] at hra
  have c0 : w1.cell? ⟨W.heap.size + 1, 0, none⟩ = some (.int .i64 23) := by rw [cell_of_row _ _ 0 _ _ _ hra.st]; rfl
  have c1 : w1.cell? ⟨W.heap.size + 1, 1, none⟩ = some (.int .i64 pos) := by rw [cell_of_row _ _ 1 _ _ _ hra.st]; rfl
  have c2 : w1.cell? ⟨W.heap.size + 1, 2, none⟩ = some (.int .i64 layer) := by rw [cell_of_row _ _ 2 _ _ _ hra.st]; rfl
  have c4 : w1.cell? ⟨W.heap.size + 1, 4, none⟩ = some (.int .i64 row) := by rw [cell_of_row _ _ 4 _ _ _ hra.st]; rfl
  have HW := Lib.hid hw1
  have HC := Lib.hid hra
  clear hw1 hra hok hp hat
  go_enter Try.func38, Try.ntmps38
  go_upto_region 1 with fail
  rw [← HW.out]
  go_wp2_with fail
  go_ret
  exact ⟨_, _, _, rfl, rfl, ints_block (ks := [11, 0]) (heap_alloc_new w1 _) 2 rfl (by simp), below_chain HC.out.below ((Below.refl _ _).alloc (Nat.le_refl _) _)⟩
set_option maxRecDepth 100000 in
set_option maxHeartbeats 4000000 in
theorem rwrites_1 (W : World) (p : Pln) (hp : Small p) (at_ : Nat) (pos layer head row : Int) (hok : StpOk ⟨1, pos, layer, head, row⟩ at_) (hat : at_ ≤ 64) :
    Calls Try.prog 40 #[.agg (refC p).toArray, .agg #[.int .i64 1, .int .i64 pos, .int .i64 layer, .int .i64 head, .int .i64 row]] W (fun e w' => e = .returned (.int .i64 (writesV p.places ⟨1, pos, layer, head, row⟩)) ∧ Below W.heap.size W w') := by
  have hra := rrat_of W p 1 pos layer head row
  obtain ⟨w1, hw1⟩ : ∃ w1, w1 = (W.alloc (.cells (refC p).toArray 84)).alloc (.cells #[.int .i64 1, .int .i64 pos, .int .i64 layer, .int .i64 head, .int .i64 row] 88) := ⟨_, rfl⟩
  rw [← hw1] at hra
  have c0 : w1.cell? ⟨W.heap.size + 1, 0, none⟩ = some (.int .i64 1) := by rw [cell_of_row _ _ 0 _ _ _ hra.st]; rfl
  have c1 : w1.cell? ⟨W.heap.size + 1, 1, none⟩ = some (.int .i64 pos) := by rw [cell_of_row _ _ 1 _ _ _ hra.st]; rfl
  have c2 : w1.cell? ⟨W.heap.size + 1, 2, none⟩ = some (.int .i64 layer) := by rw [cell_of_row _ _ 2 _ _ _ hra.st]; rfl
  have c4 : w1.cell? ⟨W.heap.size + 1, 4, none⟩ = some (.int .i64 row) := by rw [cell_of_row _ _ 4 _ _ _ hra.st]; rfl
  have HW := Lib.hid hw1
  have HC := Lib.hid hra
  clear hw1 hra hok hp hat
  go_enter Try.func40, Try.ntmps40
  go_upto_region 1 with fail
  rw [← HW.out]
  go_wp2_with fail
  go_ret
  exact ⟨rfl, HC.out.below⟩
set_option maxRecDepth 100000 in
set_option maxHeartbeats 4000000 in
theorem rwrites_2 (W : World) (p : Pln) (hp : Small p) (at_ : Nat) (pos layer head row : Int) (hok : StpOk ⟨2, pos, layer, head, row⟩ at_) (hat : at_ ≤ 64) :
    Calls Try.prog 40 #[.agg (refC p).toArray, .agg #[.int .i64 2, .int .i64 pos, .int .i64 layer, .int .i64 head, .int .i64 row]] W (fun e w' => e = .returned (.int .i64 (writesV p.places ⟨2, pos, layer, head, row⟩)) ∧ Below W.heap.size W w') := by
  have hra := rrat_of W p 2 pos layer head row
  obtain ⟨w1, hw1⟩ : ∃ w1, w1 = (W.alloc (.cells (refC p).toArray 84)).alloc (.cells #[.int .i64 2, .int .i64 pos, .int .i64 layer, .int .i64 head, .int .i64 row] 88) := ⟨_, rfl⟩
  rw [← hw1] at hra
  have c0 : w1.cell? ⟨W.heap.size + 1, 0, none⟩ = some (.int .i64 2) := by rw [cell_of_row _ _ 0 _ _ _ hra.st]; rfl
  have c1 : w1.cell? ⟨W.heap.size + 1, 1, none⟩ = some (.int .i64 pos) := by rw [cell_of_row _ _ 1 _ _ _ hra.st]; rfl
  have c2 : w1.cell? ⟨W.heap.size + 1, 2, none⟩ = some (.int .i64 layer) := by rw [cell_of_row _ _ 2 _ _ _ hra.st]; rfl
  have c4 : w1.cell? ⟨W.heap.size + 1, 4, none⟩ = some (.int .i64 row) := by rw [cell_of_row _ _ 4 _ _ _ hra.st]; rfl
  have HW := Lib.hid hw1
  have HC := Lib.hid hra
  clear hw1 hra hok hp hat
  go_enter Try.func40, Try.ntmps40
  go_upto_region 1 with fail
  rw [← HW.out]
  go_wp2_with fail
  go_ret
  exact ⟨rfl, HC.out.below⟩
set_option maxRecDepth 100000 in
set_option maxHeartbeats 4000000 in
theorem rwrites_3 (W : World) (p : Pln) (hp : Small p) (at_ : Nat) (pos layer head row : Int) (hok : StpOk ⟨3, pos, layer, head, row⟩ at_) (hat : at_ ≤ 64) :
    Calls Try.prog 40 #[.agg (refC p).toArray, .agg #[.int .i64 3, .int .i64 pos, .int .i64 layer, .int .i64 head, .int .i64 row]] W (fun e w' => e = .returned (.int .i64 (writesV p.places ⟨3, pos, layer, head, row⟩)) ∧ Below W.heap.size W w') := by
  have hra := rrat_of W p 3 pos layer head row
  obtain ⟨w1, hw1⟩ : ∃ w1, w1 = (W.alloc (.cells (refC p).toArray 84)).alloc (.cells #[.int .i64 3, .int .i64 pos, .int .i64 layer, .int .i64 head, .int .i64 row] 88) := ⟨_, rfl⟩
  rw [← hw1] at hra
  have c0 : w1.cell? ⟨W.heap.size + 1, 0, none⟩ = some (.int .i64 3) := by rw [cell_of_row _ _ 0 _ _ _ hra.st]; rfl
  have c1 : w1.cell? ⟨W.heap.size + 1, 1, none⟩ = some (.int .i64 pos) := by rw [cell_of_row _ _ 1 _ _ _ hra.st]; rfl
  have c2 : w1.cell? ⟨W.heap.size + 1, 2, none⟩ = some (.int .i64 layer) := by rw [cell_of_row _ _ 2 _ _ _ hra.st]; rfl
  have c4 : w1.cell? ⟨W.heap.size + 1, 4, none⟩ = some (.int .i64 row) := by rw [cell_of_row _ _ 4 _ _ _ hra.st]; rfl
  have HW := Lib.hid hw1
  have HC := Lib.hid hra
  clear hw1 hra hok hp hat
  go_enter Try.func40, Try.ntmps40
  go_upto_region 1 with fail
  rw [← HW.out]
  go_wp2_with fail
  go_ret
  exact ⟨rfl, HC.out.below⟩
set_option maxRecDepth 100000 in
set_option maxHeartbeats 4000000 in
theorem rwrites_4 (W : World) (p : Pln) (hp : Small p) (at_ : Nat) (pos layer head row : Int) (hok : StpOk ⟨4, pos, layer, head, row⟩ at_) (hat : at_ ≤ 64) :
    Calls Try.prog 40 #[.agg (refC p).toArray, .agg #[.int .i64 4, .int .i64 pos, .int .i64 layer, .int .i64 head, .int .i64 row]] W (fun e w' => e = .returned (.int .i64 (writesV p.places ⟨4, pos, layer, head, row⟩)) ∧ Below W.heap.size W w') := by
  have hra := rrat_of W p 4 pos layer head row
  obtain ⟨w1, hw1⟩ : ∃ w1, w1 = (W.alloc (.cells (refC p).toArray 84)).alloc (.cells #[.int .i64 4, .int .i64 pos, .int .i64 layer, .int .i64 head, .int .i64 row] 88) := ⟨_, rfl⟩
  rw [← hw1] at hra
  have c0 : w1.cell? ⟨W.heap.size + 1, 0, none⟩ = some (.int .i64 4) := by rw [cell_of_row _ _ 0 _ _ _ hra.st]; rfl
  have c1 : w1.cell? ⟨W.heap.size + 1, 1, none⟩ = some (.int .i64 pos) := by rw [cell_of_row _ _ 1 _ _ _ hra.st]; rfl
  have c2 : w1.cell? ⟨W.heap.size + 1, 2, none⟩ = some (.int .i64 layer) := by rw [cell_of_row _ _ 2 _ _ _ hra.st]; rfl
  have c4 : w1.cell? ⟨W.heap.size + 1, 4, none⟩ = some (.int .i64 row) := by rw [cell_of_row _ _ 4 _ _ _ hra.st]; rfl
  have HW := Lib.hid hw1
  have HC := Lib.hid hra
  clear hw1 hra hok hp hat
  go_enter Try.func40, Try.ntmps40
  go_upto_region 1 with fail
  rw [← HW.out]
  go_wp2_with fail
  go_ret
  exact ⟨rfl, HC.out.below⟩
set_option maxRecDepth 100000 in
set_option maxHeartbeats 4000000 in
theorem rwrites_5 (W : World) (p : Pln) (hp : Small p) (at_ : Nat) (pos layer head row : Int) (hok : StpOk ⟨5, pos, layer, head, row⟩ at_) (hat : at_ ≤ 64) :
    Calls Try.prog 40 #[.agg (refC p).toArray, .agg #[.int .i64 5, .int .i64 pos, .int .i64 layer, .int .i64 head, .int .i64 row]] W (fun e w' => e = .returned (.int .i64 (writesV p.places ⟨5, pos, layer, head, row⟩)) ∧ Below W.heap.size W w') := by
  have hra := rrat_of W p 5 pos layer head row
  obtain ⟨w1, hw1⟩ : ∃ w1, w1 = (W.alloc (.cells (refC p).toArray 84)).alloc (.cells #[.int .i64 5, .int .i64 pos, .int .i64 layer, .int .i64 head, .int .i64 row] 88) := ⟨_, rfl⟩
  rw [← hw1] at hra
  have c0 : w1.cell? ⟨W.heap.size + 1, 0, none⟩ = some (.int .i64 5) := by rw [cell_of_row _ _ 0 _ _ _ hra.st]; rfl
  have c1 : w1.cell? ⟨W.heap.size + 1, 1, none⟩ = some (.int .i64 pos) := by rw [cell_of_row _ _ 1 _ _ _ hra.st]; rfl
  have c2 : w1.cell? ⟨W.heap.size + 1, 2, none⟩ = some (.int .i64 layer) := by rw [cell_of_row _ _ 2 _ _ _ hra.st]; rfl
  have c4 : w1.cell? ⟨W.heap.size + 1, 4, none⟩ = some (.int .i64 row) := by rw [cell_of_row _ _ 4 _ _ _ hra.st]; rfl
  have HW := Lib.hid hw1
  have HC := Lib.hid hra
  clear hw1 hra hok hp hat
  go_enter Try.func40, Try.ntmps40
  go_upto_region 1 with fail
  rw [← HW.out]
  go_wp2_with fail
  go_ret
  exact ⟨rfl, HC.out.below⟩
set_option maxRecDepth 100000 in
set_option maxHeartbeats 4000000 in
theorem rwrites_6 (W : World) (p : Pln) (hp : Small p) (at_ : Nat) (pos layer head row : Int) (hok : StpOk ⟨6, pos, layer, head, row⟩ at_) (hat : at_ ≤ 64) :
    Calls Try.prog 40 #[.agg (refC p).toArray, .agg #[.int .i64 6, .int .i64 pos, .int .i64 layer, .int .i64 head, .int .i64 row]] W (fun e w' => e = .returned (.int .i64 (writesV p.places ⟨6, pos, layer, head, row⟩)) ∧ Below W.heap.size W w') := by
  have hra := rrat_of W p 6 pos layer head row
  obtain ⟨w1, hw1⟩ : ∃ w1, w1 = (W.alloc (.cells (refC p).toArray 84)).alloc (.cells #[.int .i64 6, .int .i64 pos, .int .i64 layer, .int .i64 head, .int .i64 row] 88) := ⟨_, rfl⟩
  rw [← hw1] at hra
  have c0 : w1.cell? ⟨W.heap.size + 1, 0, none⟩ = some (.int .i64 6) := by rw [cell_of_row _ _ 0 _ _ _ hra.st]; rfl
  have c1 : w1.cell? ⟨W.heap.size + 1, 1, none⟩ = some (.int .i64 pos) := by rw [cell_of_row _ _ 1 _ _ _ hra.st]; rfl
  have c2 : w1.cell? ⟨W.heap.size + 1, 2, none⟩ = some (.int .i64 layer) := by rw [cell_of_row _ _ 2 _ _ _ hra.st]; rfl
  have c4 : w1.cell? ⟨W.heap.size + 1, 4, none⟩ = some (.int .i64 row) := by rw [cell_of_row _ _ 4 _ _ _ hra.st]; rfl
  have HW := Lib.hid hw1
  have HC := Lib.hid hra
  clear hw1 hra hok hp hat
  go_enter Try.func40, Try.ntmps40
  go_upto_region 1 with fail
  rw [← HW.out]
  go_wp2_with fail
  go_ret
  exact ⟨rfl, HC.out.below⟩
set_option maxRecDepth 100000 in
set_option maxHeartbeats 4000000 in
theorem rwrites_7 (W : World) (p : Pln) (hp : Small p) (at_ : Nat) (pos layer head row : Int) (hok : StpOk ⟨7, pos, layer, head, row⟩ at_) (hat : at_ ≤ 64) :
    Calls Try.prog 40 #[.agg (refC p).toArray, .agg #[.int .i64 7, .int .i64 pos, .int .i64 layer, .int .i64 head, .int .i64 row]] W (fun e w' => e = .returned (.int .i64 (writesV p.places ⟨7, pos, layer, head, row⟩)) ∧ Below W.heap.size W w') := by
  have hra := rrat_of W p 7 pos layer head row
  obtain ⟨w1, hw1⟩ : ∃ w1, w1 = (W.alloc (.cells (refC p).toArray 84)).alloc (.cells #[.int .i64 7, .int .i64 pos, .int .i64 layer, .int .i64 head, .int .i64 row] 88) := ⟨_, rfl⟩
  rw [← hw1] at hra
  obtain ⟨kv, hkv⟩ : ∃ kv, kv = keyV p.places layer pos := ⟨_, rfl⟩
  have hky := fun w => rkey_any w p hp layer pos hok.layer (by have := hok.pos; simp only at this; omega)
  have hkb : 0 ≤ kv ∧ kv ≤ 100000 := by
    have := key_bound (l := layer) hp.places.2 hok.layer
    have h2 : 0 ≤ pos ∧ pos ≤ 512 := by have := hok.pos; simp only at this; omega
    rw [hkv]
    unfold keyV
    omega
  rw [← hkv] at hky
  have hrl : writesV p.places ⟨7, pos, layer, head, row⟩ = kv := by rw [hkv]; rfl
  rw [hrl]
  have HK := Lib.hid hky
  clear hky hkv hrl
  have c0 : w1.cell? ⟨W.heap.size + 1, 0, none⟩ = some (.int .i64 7) := by rw [cell_of_row _ _ 0 _ _ _ hra.st]; rfl
  have c1 : w1.cell? ⟨W.heap.size + 1, 1, none⟩ = some (.int .i64 pos) := by rw [cell_of_row _ _ 1 _ _ _ hra.st]; rfl
  have c2 : w1.cell? ⟨W.heap.size + 1, 2, none⟩ = some (.int .i64 layer) := by rw [cell_of_row _ _ 2 _ _ _ hra.st]; rfl
  have c4 : w1.cell? ⟨W.heap.size + 1, 4, none⟩ = some (.int .i64 row) := by rw [cell_of_row _ _ 4 _ _ _ hra.st]; rfl
  have HW := Lib.hid hw1
  have HC := Lib.hid hra
  clear hw1 hra hok hp hat
  go_enter Try.func40, Try.ntmps40
  go_upto_region 1 with fail
  rw [← HW.out]
  go_wp2_with (first | (refine wpList_load_mid rfl 84 (.tmp 2) rfl W.heap.size 0 rfl (refC p) _ (rangeAt_whole HC.out.pl) Try.underlying84 rfl ref_size ?_; simp only [Act.put, List.setIfInBounds_toArray, List.set_cons_succ, List.set_cons_zero]) | (go_at_call 87; (with_reducible refine Calls.mono (HK.out w1) ?_); rintro e w3 ⟨rfl, hb3⟩; have H3 := Lib.hid hb3; clear hb3))
  go_ret
  exact ⟨rfl, below_chain HC.out.below H3.out⟩
set_option maxRecDepth 100000 in
set_option maxHeartbeats 4000000 in
theorem rwrites_8 (W : World) (p : Pln) (hp : Small p) (at_ : Nat) (pos layer head row : Int) (hok : StpOk ⟨8, pos, layer, head, row⟩ at_) (hat : at_ ≤ 64) :
    Calls Try.prog 40 #[.agg (refC p).toArray, .agg #[.int .i64 8, .int .i64 pos, .int .i64 layer, .int .i64 head, .int .i64 row]] W (fun e w' => e = .returned (.int .i64 (writesV p.places ⟨8, pos, layer, head, row⟩)) ∧ Below W.heap.size W w') := by
  have hra := rrat_of W p 8 pos layer head row
  obtain ⟨w1, hw1⟩ : ∃ w1, w1 = (W.alloc (.cells (refC p).toArray 84)).alloc (.cells #[.int .i64 8, .int .i64 pos, .int .i64 layer, .int .i64 head, .int .i64 row] 88) := ⟨_, rfl⟩
  rw [← hw1] at hra
  obtain ⟨kv, hkv⟩ : ∃ kv, kv = keyV p.places layer pos := ⟨_, rfl⟩
  have hky := fun w => rkey_any w p hp layer pos hok.layer (by have := hok.pos; simp only at this; omega)
  have hkb : 0 ≤ kv ∧ kv ≤ 100000 := by
    have := key_bound (l := layer) hp.places.2 hok.layer
    have h2 : 0 ≤ pos ∧ pos ≤ 512 := by have := hok.pos; simp only at this; omega
    rw [hkv]
    unfold keyV
    omega
  rw [← hkv] at hky
  have hrl : writesV p.places ⟨8, pos, layer, head, row⟩ = kv + 1 := by rw [hkv]; rfl
  rw [hrl]
  have HK := Lib.hid hky
  clear hky hkv hrl
  have c0 : w1.cell? ⟨W.heap.size + 1, 0, none⟩ = some (.int .i64 8) := by rw [cell_of_row _ _ 0 _ _ _ hra.st]; rfl
  have c1 : w1.cell? ⟨W.heap.size + 1, 1, none⟩ = some (.int .i64 pos) := by rw [cell_of_row _ _ 1 _ _ _ hra.st]; rfl
  have c2 : w1.cell? ⟨W.heap.size + 1, 2, none⟩ = some (.int .i64 layer) := by rw [cell_of_row _ _ 2 _ _ _ hra.st]; rfl
  have c4 : w1.cell? ⟨W.heap.size + 1, 4, none⟩ = some (.int .i64 row) := by rw [cell_of_row _ _ 4 _ _ _ hra.st]; rfl
  have HW := Lib.hid hw1
  have HC := Lib.hid hra
  clear hw1 hra hok hp hat
  go_enter Try.func40, Try.ntmps40
  go_upto_region 1 with fail
  rw [← HW.out]
  go_wp2_with (first | (refine wpList_load_mid rfl 84 (.tmp 2) rfl W.heap.size 0 rfl (refC p) _ (rangeAt_whole HC.out.pl) Try.underlying84 rfl ref_size ?_; simp only [Act.put, List.setIfInBounds_toArray, List.set_cons_succ, List.set_cons_zero]) | (go_at_call 87; (with_reducible refine Calls.mono (HK.out w1) ?_); rintro e w3 ⟨rfl, hb3⟩; have H3 := Lib.hid hb3; clear hb3))
  go_ret
  exact ⟨rfl, below_chain HC.out.below H3.out⟩
set_option maxRecDepth 100000 in
set_option maxHeartbeats 4000000 in
theorem rwrites_9 (W : World) (p : Pln) (hp : Small p) (at_ : Nat) (pos layer head row : Int) (hok : StpOk ⟨9, pos, layer, head, row⟩ at_) (hat : at_ ≤ 64) :
    Calls Try.prog 40 #[.agg (refC p).toArray, .agg #[.int .i64 9, .int .i64 pos, .int .i64 layer, .int .i64 head, .int .i64 row]] W (fun e w' => e = .returned (.int .i64 (writesV p.places ⟨9, pos, layer, head, row⟩)) ∧ Below W.heap.size W w') := by
  have hra := rrat_of W p 9 pos layer head row
  obtain ⟨w1, hw1⟩ : ∃ w1, w1 = (W.alloc (.cells (refC p).toArray 84)).alloc (.cells #[.int .i64 9, .int .i64 pos, .int .i64 layer, .int .i64 head, .int .i64 row] 88) := ⟨_, rfl⟩
  rw [← hw1] at hra
  have c0 : w1.cell? ⟨W.heap.size + 1, 0, none⟩ = some (.int .i64 9) := by rw [cell_of_row _ _ 0 _ _ _ hra.st]; rfl
  have c1 : w1.cell? ⟨W.heap.size + 1, 1, none⟩ = some (.int .i64 pos) := by rw [cell_of_row _ _ 1 _ _ _ hra.st]; rfl
  have c2 : w1.cell? ⟨W.heap.size + 1, 2, none⟩ = some (.int .i64 layer) := by rw [cell_of_row _ _ 2 _ _ _ hra.st]; rfl
  have c4 : w1.cell? ⟨W.heap.size + 1, 4, none⟩ = some (.int .i64 row) := by rw [cell_of_row _ _ 4 _ _ _ hra.st]; rfl
  have HW := Lib.hid hw1
  have HC := Lib.hid hra
  clear hw1 hra hok hp hat
  go_enter Try.func40, Try.ntmps40
  go_upto_region 1 with fail
  rw [← HW.out]
  go_wp2_with fail
  go_ret
  exact ⟨rfl, HC.out.below⟩
set_option maxRecDepth 100000 in
set_option maxHeartbeats 4000000 in
theorem rwrites_10 (W : World) (p : Pln) (hp : Small p) (at_ : Nat) (pos layer head row : Int) (hok : StpOk ⟨10, pos, layer, head, row⟩ at_) (hat : at_ ≤ 64) :
    Calls Try.prog 40 #[.agg (refC p).toArray, .agg #[.int .i64 10, .int .i64 pos, .int .i64 layer, .int .i64 head, .int .i64 row]] W (fun e w' => e = .returned (.int .i64 (writesV p.places ⟨10, pos, layer, head, row⟩)) ∧ Below W.heap.size W w') := by
  have hra := rrat_of W p 10 pos layer head row
  obtain ⟨w1, hw1⟩ : ∃ w1, w1 = (W.alloc (.cells (refC p).toArray 84)).alloc (.cells #[.int .i64 10, .int .i64 pos, .int .i64 layer, .int .i64 head, .int .i64 row] 88) := ⟨_, rfl⟩
  rw [← hw1] at hra
  have c0 : w1.cell? ⟨W.heap.size + 1, 0, none⟩ = some (.int .i64 10) := by rw [cell_of_row _ _ 0 _ _ _ hra.st]; rfl
  have c1 : w1.cell? ⟨W.heap.size + 1, 1, none⟩ = some (.int .i64 pos) := by rw [cell_of_row _ _ 1 _ _ _ hra.st]; rfl
  have c2 : w1.cell? ⟨W.heap.size + 1, 2, none⟩ = some (.int .i64 layer) := by rw [cell_of_row _ _ 2 _ _ _ hra.st]; rfl
  have c4 : w1.cell? ⟨W.heap.size + 1, 4, none⟩ = some (.int .i64 row) := by rw [cell_of_row _ _ 4 _ _ _ hra.st]; rfl
  have HW := Lib.hid hw1
  have HC := Lib.hid hra
  clear hw1 hra hok hp hat
  go_enter Try.func40, Try.ntmps40
  go_upto_region 1 with fail
  rw [← HW.out]
  go_wp2_with fail
  go_ret
  exact ⟨rfl, HC.out.below⟩
set_option maxRecDepth 100000 in
set_option maxHeartbeats 4000000 in
theorem rwrites_11 (W : World) (p : Pln) (hp : Small p) (at_ : Nat) (pos layer head row : Int) (hok : StpOk ⟨11, pos, layer, head, row⟩ at_) (hat : at_ ≤ 64) :
    Calls Try.prog 40 #[.agg (refC p).toArray, .agg #[.int .i64 11, .int .i64 pos, .int .i64 layer, .int .i64 head, .int .i64 row]] W (fun e w' => e = .returned (.int .i64 (writesV p.places ⟨11, pos, layer, head, row⟩)) ∧ Below W.heap.size W w') := by
  have hra := rrat_of W p 11 pos layer head row
  obtain ⟨w1, hw1⟩ : ∃ w1, w1 = (W.alloc (.cells (refC p).toArray 84)).alloc (.cells #[.int .i64 11, .int .i64 pos, .int .i64 layer, .int .i64 head, .int .i64 row] 88) := ⟨_, rfl⟩
  rw [← hw1] at hra
  have c0 : w1.cell? ⟨W.heap.size + 1, 0, none⟩ = some (.int .i64 11) := by rw [cell_of_row _ _ 0 _ _ _ hra.st]; rfl
  have c1 : w1.cell? ⟨W.heap.size + 1, 1, none⟩ = some (.int .i64 pos) := by rw [cell_of_row _ _ 1 _ _ _ hra.st]; rfl
  have c2 : w1.cell? ⟨W.heap.size + 1, 2, none⟩ = some (.int .i64 layer) := by rw [cell_of_row _ _ 2 _ _ _ hra.st]; rfl
  have c4 : w1.cell? ⟨W.heap.size + 1, 4, none⟩ = some (.int .i64 row) := by rw [cell_of_row _ _ 4 _ _ _ hra.st]; rfl
  have HW := Lib.hid hw1
  have HC := Lib.hid hra
  clear hw1 hra hok hp hat
  go_enter Try.func40, Try.ntmps40
  go_upto_region 1 with fail
  rw [← HW.out]
  go_wp2_with fail
  go_ret
  exact ⟨rfl, HC.out.below⟩
set_option maxRecDepth 100000 in
set_option maxHeartbeats 4000000 in
theorem rwrites_12 (W : World) (p : Pln) (hp : Small p) (at_ : Nat) (pos layer head row : Int) (hok : StpOk ⟨12, pos, layer, head, row⟩ at_) (hat : at_ ≤ 64) :
    Calls Try.prog 40 #[.agg (refC p).toArray, .agg #[.int .i64 12, .int .i64 pos, .int .i64 layer, .int .i64 head, .int .i64 row]] W (fun e w' => e = .returned (.int .i64 (writesV p.places ⟨12, pos, layer, head, row⟩)) ∧ Below W.heap.size W w') := by
  have hra := rrat_of W p 12 pos layer head row
  obtain ⟨w1, hw1⟩ : ∃ w1, w1 = (W.alloc (.cells (refC p).toArray 84)).alloc (.cells #[.int .i64 12, .int .i64 pos, .int .i64 layer, .int .i64 head, .int .i64 row] 88) := ⟨_, rfl⟩
  rw [← hw1] at hra
  have c0 : w1.cell? ⟨W.heap.size + 1, 0, none⟩ = some (.int .i64 12) := by rw [cell_of_row _ _ 0 _ _ _ hra.st]; rfl
  have c1 : w1.cell? ⟨W.heap.size + 1, 1, none⟩ = some (.int .i64 pos) := by rw [cell_of_row _ _ 1 _ _ _ hra.st]; rfl
  have c2 : w1.cell? ⟨W.heap.size + 1, 2, none⟩ = some (.int .i64 layer) := by rw [cell_of_row _ _ 2 _ _ _ hra.st]; rfl
  have c4 : w1.cell? ⟨W.heap.size + 1, 4, none⟩ = some (.int .i64 row) := by rw [cell_of_row _ _ 4 _ _ _ hra.st]; rfl
  have HW := Lib.hid hw1
  have HC := Lib.hid hra
  clear hw1 hra hok hp hat
  go_enter Try.func40, Try.ntmps40
  go_upto_region 1 with fail
  rw [← HW.out]
  go_wp2_with fail
  go_ret
  exact ⟨rfl, HC.out.below⟩
set_option maxRecDepth 100000 in
set_option maxHeartbeats 4000000 in
theorem rwrites_13 (W : World) (p : Pln) (hp : Small p) (at_ : Nat) (pos layer head row : Int) (hok : StpOk ⟨13, pos, layer, head, row⟩ at_) (hat : at_ ≤ 64) :
    Calls Try.prog 40 #[.agg (refC p).toArray, .agg #[.int .i64 13, .int .i64 pos, .int .i64 layer, .int .i64 head, .int .i64 row]] W (fun e w' => e = .returned (.int .i64 (writesV p.places ⟨13, pos, layer, head, row⟩)) ∧ Below W.heap.size W w') := by
  have hra := rrat_of W p 13 pos layer head row
  obtain ⟨w1, hw1⟩ : ∃ w1, w1 = (W.alloc (.cells (refC p).toArray 84)).alloc (.cells #[.int .i64 13, .int .i64 pos, .int .i64 layer, .int .i64 head, .int .i64 row] 88) := ⟨_, rfl⟩
  rw [← hw1] at hra
  have c0 : w1.cell? ⟨W.heap.size + 1, 0, none⟩ = some (.int .i64 13) := by rw [cell_of_row _ _ 0 _ _ _ hra.st]; rfl
  have c1 : w1.cell? ⟨W.heap.size + 1, 1, none⟩ = some (.int .i64 pos) := by rw [cell_of_row _ _ 1 _ _ _ hra.st]; rfl
  have c2 : w1.cell? ⟨W.heap.size + 1, 2, none⟩ = some (.int .i64 layer) := by rw [cell_of_row _ _ 2 _ _ _ hra.st]; rfl
  have c4 : w1.cell? ⟨W.heap.size + 1, 4, none⟩ = some (.int .i64 row) := by rw [cell_of_row _ _ 4 _ _ _ hra.st]; rfl
  have HW := Lib.hid hw1
  have HC := Lib.hid hra
  clear hw1 hra hok hp hat
  go_enter Try.func40, Try.ntmps40
  go_upto_region 1 with fail
  rw [← HW.out]
  go_wp2_with fail
  go_ret
  exact ⟨rfl, HC.out.below⟩
set_option maxRecDepth 100000 in
set_option maxHeartbeats 4000000 in
theorem rwrites_14 (W : World) (p : Pln) (hp : Small p) (at_ : Nat) (pos layer head row : Int) (hok : StpOk ⟨14, pos, layer, head, row⟩ at_) (hat : at_ ≤ 64) :
    Calls Try.prog 40 #[.agg (refC p).toArray, .agg #[.int .i64 14, .int .i64 pos, .int .i64 layer, .int .i64 head, .int .i64 row]] W (fun e w' => e = .returned (.int .i64 (writesV p.places ⟨14, pos, layer, head, row⟩)) ∧ Below W.heap.size W w') := by
  have hra := rrat_of W p 14 pos layer head row
  obtain ⟨w1, hw1⟩ : ∃ w1, w1 = (W.alloc (.cells (refC p).toArray 84)).alloc (.cells #[.int .i64 14, .int .i64 pos, .int .i64 layer, .int .i64 head, .int .i64 row] 88) := ⟨_, rfl⟩
  rw [← hw1] at hra
  have c0 : w1.cell? ⟨W.heap.size + 1, 0, none⟩ = some (.int .i64 14) := by rw [cell_of_row _ _ 0 _ _ _ hra.st]; rfl
  have c1 : w1.cell? ⟨W.heap.size + 1, 1, none⟩ = some (.int .i64 pos) := by rw [cell_of_row _ _ 1 _ _ _ hra.st]; rfl
  have c2 : w1.cell? ⟨W.heap.size + 1, 2, none⟩ = some (.int .i64 layer) := by rw [cell_of_row _ _ 2 _ _ _ hra.st]; rfl
  have c4 : w1.cell? ⟨W.heap.size + 1, 4, none⟩ = some (.int .i64 row) := by rw [cell_of_row _ _ 4 _ _ _ hra.st]; rfl
  have HW := Lib.hid hw1
  have HC := Lib.hid hra
  clear hw1 hra hok hp hat
  go_enter Try.func40, Try.ntmps40
  go_upto_region 1 with fail
  rw [← HW.out]
  go_wp2_with fail
  go_ret
  exact ⟨rfl, HC.out.below⟩
set_option maxRecDepth 100000 in
set_option maxHeartbeats 4000000 in
theorem rwrites_15 (W : World) (p : Pln) (hp : Small p) (at_ : Nat) (pos layer head row : Int) (hok : StpOk ⟨15, pos, layer, head, row⟩ at_) (hat : at_ ≤ 64) :
    Calls Try.prog 40 #[.agg (refC p).toArray, .agg #[.int .i64 15, .int .i64 pos, .int .i64 layer, .int .i64 head, .int .i64 row]] W (fun e w' => e = .returned (.int .i64 (writesV p.places ⟨15, pos, layer, head, row⟩)) ∧ Below W.heap.size W w') := by
  have hra := rrat_of W p 15 pos layer head row
  obtain ⟨w1, hw1⟩ : ∃ w1, w1 = (W.alloc (.cells (refC p).toArray 84)).alloc (.cells #[.int .i64 15, .int .i64 pos, .int .i64 layer, .int .i64 head, .int .i64 row] 88) := ⟨_, rfl⟩
  rw [← hw1] at hra
  have c0 : w1.cell? ⟨W.heap.size + 1, 0, none⟩ = some (.int .i64 15) := by rw [cell_of_row _ _ 0 _ _ _ hra.st]; rfl
  have c1 : w1.cell? ⟨W.heap.size + 1, 1, none⟩ = some (.int .i64 pos) := by rw [cell_of_row _ _ 1 _ _ _ hra.st]; rfl
  have c2 : w1.cell? ⟨W.heap.size + 1, 2, none⟩ = some (.int .i64 layer) := by rw [cell_of_row _ _ 2 _ _ _ hra.st]; rfl
  have c4 : w1.cell? ⟨W.heap.size + 1, 4, none⟩ = some (.int .i64 row) := by rw [cell_of_row _ _ 4 _ _ _ hra.st]; rfl
  have HW := Lib.hid hw1
  have HC := Lib.hid hra
  clear hw1 hra hok hp hat
  go_enter Try.func40, Try.ntmps40
  go_upto_region 1 with fail
  rw [← HW.out]
  go_wp2_with fail
  go_ret
  exact ⟨rfl, HC.out.below⟩
set_option maxRecDepth 100000 in
set_option maxHeartbeats 4000000 in
theorem rwrites_16 (W : World) (p : Pln) (hp : Small p) (at_ : Nat) (pos layer head row : Int) (hok : StpOk ⟨16, pos, layer, head, row⟩ at_) (hat : at_ ≤ 64) :
    Calls Try.prog 40 #[.agg (refC p).toArray, .agg #[.int .i64 16, .int .i64 pos, .int .i64 layer, .int .i64 head, .int .i64 row]] W (fun e w' => e = .returned (.int .i64 (writesV p.places ⟨16, pos, layer, head, row⟩)) ∧ Below W.heap.size W w') := by
  have hra := rrat_of W p 16 pos layer head row
  obtain ⟨w1, hw1⟩ : ∃ w1, w1 = (W.alloc (.cells (refC p).toArray 84)).alloc (.cells #[.int .i64 16, .int .i64 pos, .int .i64 layer, .int .i64 head, .int .i64 row] 88) := ⟨_, rfl⟩
  rw [← hw1] at hra
  have c0 : w1.cell? ⟨W.heap.size + 1, 0, none⟩ = some (.int .i64 16) := by rw [cell_of_row _ _ 0 _ _ _ hra.st]; rfl
  have c1 : w1.cell? ⟨W.heap.size + 1, 1, none⟩ = some (.int .i64 pos) := by rw [cell_of_row _ _ 1 _ _ _ hra.st]; rfl
  have c2 : w1.cell? ⟨W.heap.size + 1, 2, none⟩ = some (.int .i64 layer) := by rw [cell_of_row _ _ 2 _ _ _ hra.st]; rfl
  have c4 : w1.cell? ⟨W.heap.size + 1, 4, none⟩ = some (.int .i64 row) := by rw [cell_of_row _ _ 4 _ _ _ hra.st]; rfl
  have HW := Lib.hid hw1
  have HC := Lib.hid hra
  clear hw1 hra hok hp hat
  go_enter Try.func40, Try.ntmps40
  go_upto_region 1 with fail
  rw [← HW.out]
  go_wp2_with fail
  go_ret
  exact ⟨rfl, HC.out.below⟩
set_option maxRecDepth 100000 in
set_option maxHeartbeats 4000000 in
theorem rwrites_17 (W : World) (p : Pln) (hp : Small p) (at_ : Nat) (pos layer head row : Int) (hok : StpOk ⟨17, pos, layer, head, row⟩ at_) (hat : at_ ≤ 64) :
    Calls Try.prog 40 #[.agg (refC p).toArray, .agg #[.int .i64 17, .int .i64 pos, .int .i64 layer, .int .i64 head, .int .i64 row]] W (fun e w' => e = .returned (.int .i64 (writesV p.places ⟨17, pos, layer, head, row⟩)) ∧ Below W.heap.size W w') := by
  have hra := rrat_of W p 17 pos layer head row
  obtain ⟨w1, hw1⟩ : ∃ w1, w1 = (W.alloc (.cells (refC p).toArray 84)).alloc (.cells #[.int .i64 17, .int .i64 pos, .int .i64 layer, .int .i64 head, .int .i64 row] 88) := ⟨_, rfl⟩
  rw [← hw1] at hra
  have c0 : w1.cell? ⟨W.heap.size + 1, 0, none⟩ = some (.int .i64 17) := by rw [cell_of_row _ _ 0 _ _ _ hra.st]; rfl
  have c1 : w1.cell? ⟨W.heap.size + 1, 1, none⟩ = some (.int .i64 pos) := by rw [cell_of_row _ _ 1 _ _ _ hra.st]; rfl
  have c2 : w1.cell? ⟨W.heap.size + 1, 2, none⟩ = some (.int .i64 layer) := by rw [cell_of_row _ _ 2 _ _ _ hra.st]; rfl
  have c4 : w1.cell? ⟨W.heap.size + 1, 4, none⟩ = some (.int .i64 row) := by rw [cell_of_row _ _ 4 _ _ _ hra.st]; rfl
  have HW := Lib.hid hw1
  have HC := Lib.hid hra
  clear hw1 hra hok hp hat
  go_enter Try.func40, Try.ntmps40
  go_upto_region 1 with fail
  rw [← HW.out]
  go_wp2_with fail
  go_ret
  exact ⟨rfl, HC.out.below⟩
set_option maxRecDepth 100000 in
set_option maxHeartbeats 4000000 in
theorem rwrites_18 (W : World) (p : Pln) (hp : Small p) (at_ : Nat) (pos layer head row : Int) (hok : StpOk ⟨18, pos, layer, head, row⟩ at_) (hat : at_ ≤ 64) :
    Calls Try.prog 40 #[.agg (refC p).toArray, .agg #[.int .i64 18, .int .i64 pos, .int .i64 layer, .int .i64 head, .int .i64 row]] W (fun e w' => e = .returned (.int .i64 (writesV p.places ⟨18, pos, layer, head, row⟩)) ∧ Below W.heap.size W w') := by
  have hra := rrat_of W p 18 pos layer head row
  obtain ⟨w1, hw1⟩ : ∃ w1, w1 = (W.alloc (.cells (refC p).toArray 84)).alloc (.cells #[.int .i64 18, .int .i64 pos, .int .i64 layer, .int .i64 head, .int .i64 row] 88) := ⟨_, rfl⟩
  rw [← hw1] at hra
  have c0 : w1.cell? ⟨W.heap.size + 1, 0, none⟩ = some (.int .i64 18) := by rw [cell_of_row _ _ 0 _ _ _ hra.st]; rfl
  have c1 : w1.cell? ⟨W.heap.size + 1, 1, none⟩ = some (.int .i64 pos) := by rw [cell_of_row _ _ 1 _ _ _ hra.st]; rfl
  have c2 : w1.cell? ⟨W.heap.size + 1, 2, none⟩ = some (.int .i64 layer) := by rw [cell_of_row _ _ 2 _ _ _ hra.st]; rfl
  have c4 : w1.cell? ⟨W.heap.size + 1, 4, none⟩ = some (.int .i64 row) := by rw [cell_of_row _ _ 4 _ _ _ hra.st]; rfl
  have HW := Lib.hid hw1
  have HC := Lib.hid hra
  clear hw1 hra hok hp hat
  go_enter Try.func40, Try.ntmps40
  go_upto_region 1 with fail
  rw [← HW.out]
  go_wp2_with fail
  go_ret
  exact ⟨rfl, HC.out.below⟩
set_option maxRecDepth 100000 in
set_option maxHeartbeats 4000000 in
theorem rwrites_19 (W : World) (p : Pln) (hp : Small p) (at_ : Nat) (pos layer head row : Int) (hok : StpOk ⟨19, pos, layer, head, row⟩ at_) (hat : at_ ≤ 64) :
    Calls Try.prog 40 #[.agg (refC p).toArray, .agg #[.int .i64 19, .int .i64 pos, .int .i64 layer, .int .i64 head, .int .i64 row]] W (fun e w' => e = .returned (.int .i64 (writesV p.places ⟨19, pos, layer, head, row⟩)) ∧ Below W.heap.size W w') := by
  have hra := rrat_of W p 19 pos layer head row
  obtain ⟨w1, hw1⟩ : ∃ w1, w1 = (W.alloc (.cells (refC p).toArray 84)).alloc (.cells #[.int .i64 19, .int .i64 pos, .int .i64 layer, .int .i64 head, .int .i64 row] 88) := ⟨_, rfl⟩
  rw [← hw1] at hra
  have c0 : w1.cell? ⟨W.heap.size + 1, 0, none⟩ = some (.int .i64 19) := by rw [cell_of_row _ _ 0 _ _ _ hra.st]; rfl
  have c1 : w1.cell? ⟨W.heap.size + 1, 1, none⟩ = some (.int .i64 pos) := by rw [cell_of_row _ _ 1 _ _ _ hra.st]; rfl
  have c2 : w1.cell? ⟨W.heap.size + 1, 2, none⟩ = some (.int .i64 layer) := by rw [cell_of_row _ _ 2 _ _ _ hra.st]; rfl
  have c4 : w1.cell? ⟨W.heap.size + 1, 4, none⟩ = some (.int .i64 row) := by rw [cell_of_row _ _ 4 _ _ _ hra.st]; rfl
  have HW := Lib.hid hw1
  have HC := Lib.hid hra
  clear hw1 hra hok hp hat
  go_enter Try.func40, Try.ntmps40
  go_upto_region 1 with fail
  rw [← HW.out]
  go_wp2_with fail
  go_ret
  exact ⟨rfl, HC.out.below⟩
set_option maxRecDepth 100000 in
set_option maxHeartbeats 4000000 in
theorem rwrites_20 (W : World) (p : Pln) (hp : Small p) (at_ : Nat) (pos layer head row : Int) (hok : StpOk ⟨20, pos, layer, head, row⟩ at_) (hat : at_ ≤ 64) :
    Calls Try.prog 40 #[.agg (refC p).toArray, .agg #[.int .i64 20, .int .i64 pos, .int .i64 layer, .int .i64 head, .int .i64 row]] W (fun e w' => e = .returned (.int .i64 (writesV p.places ⟨20, pos, layer, head, row⟩)) ∧ Below W.heap.size W w') := by
  have hra := rrat_of W p 20 pos layer head row
  obtain ⟨w1, hw1⟩ : ∃ w1, w1 = (W.alloc (.cells (refC p).toArray 84)).alloc (.cells #[.int .i64 20, .int .i64 pos, .int .i64 layer, .int .i64 head, .int .i64 row] 88) := ⟨_, rfl⟩
  rw [← hw1] at hra
  have c0 : w1.cell? ⟨W.heap.size + 1, 0, none⟩ = some (.int .i64 20) := by rw [cell_of_row _ _ 0 _ _ _ hra.st]; rfl
  have c1 : w1.cell? ⟨W.heap.size + 1, 1, none⟩ = some (.int .i64 pos) := by rw [cell_of_row _ _ 1 _ _ _ hra.st]; rfl
  have c2 : w1.cell? ⟨W.heap.size + 1, 2, none⟩ = some (.int .i64 layer) := by rw [cell_of_row _ _ 2 _ _ _ hra.st]; rfl
  have c4 : w1.cell? ⟨W.heap.size + 1, 4, none⟩ = some (.int .i64 row) := by rw [cell_of_row _ _ 4 _ _ _ hra.st]; rfl
  have HW := Lib.hid hw1
  have HC := Lib.hid hra
  clear hw1 hra hok hp hat
  go_enter Try.func40, Try.ntmps40
  go_upto_region 1 with fail
  rw [← HW.out]
  go_wp2_with fail
  go_ret
  exact ⟨rfl, HC.out.below⟩
set_option maxRecDepth 100000 in
set_option maxHeartbeats 4000000 in
theorem rwrites_21 (W : World) (p : Pln) (hp : Small p) (at_ : Nat) (pos layer head row : Int) (hok : StpOk ⟨21, pos, layer, head, row⟩ at_) (hat : at_ ≤ 64) :
    Calls Try.prog 40 #[.agg (refC p).toArray, .agg #[.int .i64 21, .int .i64 pos, .int .i64 layer, .int .i64 head, .int .i64 row]] W (fun e w' => e = .returned (.int .i64 (writesV p.places ⟨21, pos, layer, head, row⟩)) ∧ Below W.heap.size W w') := by
  have hra := rrat_of W p 21 pos layer head row
  obtain ⟨w1, hw1⟩ : ∃ w1, w1 = (W.alloc (.cells (refC p).toArray 84)).alloc (.cells #[.int .i64 21, .int .i64 pos, .int .i64 layer, .int .i64 head, .int .i64 row] 88) := ⟨_, rfl⟩
  rw [← hw1] at hra
  have c0 : w1.cell? ⟨W.heap.size + 1, 0, none⟩ = some (.int .i64 21) := by rw [cell_of_row _ _ 0 _ _ _ hra.st]; rfl
  have c1 : w1.cell? ⟨W.heap.size + 1, 1, none⟩ = some (.int .i64 pos) := by rw [cell_of_row _ _ 1 _ _ _ hra.st]; rfl
  have c2 : w1.cell? ⟨W.heap.size + 1, 2, none⟩ = some (.int .i64 layer) := by rw [cell_of_row _ _ 2 _ _ _ hra.st]; rfl
  have c4 : w1.cell? ⟨W.heap.size + 1, 4, none⟩ = some (.int .i64 row) := by rw [cell_of_row _ _ 4 _ _ _ hra.st]; rfl
  have HW := Lib.hid hw1
  have HC := Lib.hid hra
  clear hw1 hra hok hp hat
  go_enter Try.func40, Try.ntmps40
  go_upto_region 1 with fail
  rw [← HW.out]
  go_wp2_with fail
  go_ret
  exact ⟨rfl, HC.out.below⟩
set_option maxRecDepth 100000 in
set_option maxHeartbeats 4000000 in
theorem rwrites_22 (W : World) (p : Pln) (hp : Small p) (at_ : Nat) (pos layer head row : Int) (hok : StpOk ⟨22, pos, layer, head, row⟩ at_) (hat : at_ ≤ 64) :
    Calls Try.prog 40 #[.agg (refC p).toArray, .agg #[.int .i64 22, .int .i64 pos, .int .i64 layer, .int .i64 head, .int .i64 row]] W (fun e w' => e = .returned (.int .i64 (writesV p.places ⟨22, pos, layer, head, row⟩)) ∧ Below W.heap.size W w') := by
  have hra := rrat_of W p 22 pos layer head row
  obtain ⟨w1, hw1⟩ : ∃ w1, w1 = (W.alloc (.cells (refC p).toArray 84)).alloc (.cells #[.int .i64 22, .int .i64 pos, .int .i64 layer, .int .i64 head, .int .i64 row] 88) := ⟨_, rfl⟩
  rw [← hw1] at hra
  have c0 : w1.cell? ⟨W.heap.size + 1, 0, none⟩ = some (.int .i64 22) := by rw [cell_of_row _ _ 0 _ _ _ hra.st]; rfl
  have c1 : w1.cell? ⟨W.heap.size + 1, 1, none⟩ = some (.int .i64 pos) := by rw [cell_of_row _ _ 1 _ _ _ hra.st]; rfl
  have c2 : w1.cell? ⟨W.heap.size + 1, 2, none⟩ = some (.int .i64 layer) := by rw [cell_of_row _ _ 2 _ _ _ hra.st]; rfl
  have c4 : w1.cell? ⟨W.heap.size + 1, 4, none⟩ = some (.int .i64 row) := by rw [cell_of_row _ _ 4 _ _ _ hra.st]; rfl
  have HW := Lib.hid hw1
  have HC := Lib.hid hra
  clear hw1 hra hok hp hat
  go_enter Try.func40, Try.ntmps40
  go_upto_region 1 with fail
  rw [← HW.out]
  go_wp2_with fail
  go_ret
  exact ⟨rfl, HC.out.below⟩
set_option maxRecDepth 100000 in
set_option maxHeartbeats 4000000 in
theorem rwrites_23 (W : World) (p : Pln) (hp : Small p) (at_ : Nat) (pos layer head row : Int) (hok : StpOk ⟨23, pos, layer, head, row⟩ at_) (hat : at_ ≤ 64) :
    Calls Try.prog 40 #[.agg (refC p).toArray, .agg #[.int .i64 23, .int .i64 pos, .int .i64 layer, .int .i64 head, .int .i64 row]] W (fun e w' => e = .returned (.int .i64 (writesV p.places ⟨23, pos, layer, head, row⟩)) ∧ Below W.heap.size W w') := by
  have hra := rrat_of W p 23 pos layer head row
  obtain ⟨w1, hw1⟩ : ∃ w1, w1 = (W.alloc (.cells (refC p).toArray 84)).alloc (.cells #[.int .i64 23, .int .i64 pos, .int .i64 layer, .int .i64 head, .int .i64 row] 88) := ⟨_, rfl⟩
  rw [← hw1] at hra
  have c0 : w1.cell? ⟨W.heap.size + 1, 0, none⟩ = some (.int .i64 23) := by rw [cell_of_row _ _ 0 _ _ _ hra.st]; rfl
  have c1 : w1.cell? ⟨W.heap.size + 1, 1, none⟩ = some (.int .i64 pos) := by rw [cell_of_row _ _ 1 _ _ _ hra.st]; rfl
  have c2 : w1.cell? ⟨W.heap.size + 1, 2, none⟩ = some (.int .i64 layer) := by rw [cell_of_row _ _ 2 _ _ _ hra.st]; rfl
  have c4 : w1.cell? ⟨W.heap.size + 1, 4, none⟩ = some (.int .i64 row) := by rw [cell_of_row _ _ 4 _ _ _ hra.st]; rfl
  have HW := Lib.hid hw1
  have HC := Lib.hid hra
  clear hw1 hra hok hp hat
  go_enter Try.func40, Try.ntmps40
  go_upto_region 1 with fail
  rw [← HW.out]
  go_wp2_with fail
  go_ret
  exact ⟨rfl, HC.out.below⟩
theorem rreads_any (W : World) (p : Pln) (hp : Small p) (at_ : Nat) (s : Stp.Stp) (hok : StpOk s at_) (hat : at_ ≤ 64) :
    Calls Try.prog 38 #[.agg (refC p).toArray, s.val] W (ReadsPost W (readsL p.places s)) := by
  obtain ⟨k0, pos, layer, head, row⟩ := s
  have hk := hok.kind
  simp only at hk
  rcases (show k0 = 1 ∨ k0 = 2 ∨ k0 = 3 ∨ k0 = 4 ∨ k0 = 5 ∨ k0 = 6 ∨ k0 = 7 ∨ k0 = 8 ∨ k0 = 9 ∨ k0 = 10 ∨ k0 = 11 ∨ k0 = 12 ∨ k0 = 13 ∨ k0 = 14 ∨ k0 = 15 ∨ k0 = 16 ∨ k0 = 17 ∨ k0 = 18 ∨ k0 = 19 ∨ k0 = 20 ∨ k0 = 21 ∨ k0 = 22 ∨ k0 = 23 by omega) with rfl | rfl | rfl | rfl | rfl | rfl | rfl | rfl | rfl | rfl | rfl | rfl | rfl | rfl | rfl | rfl | rfl | rfl | rfl | rfl | rfl | rfl | rfl
  · exact rreads_1 W p hp at_ pos layer head row hok hat
  · exact rreads_2 W p hp at_ pos layer head row hok hat
  · exact rreads_3 W p hp at_ pos layer head row hok hat
  · exact rreads_4 W p hp at_ pos layer head row hok hat
  · exact rreads_5 W p hp at_ pos layer head row hok hat
  · exact rreads_6 W p hp at_ pos layer head row hok hat
  · exact rreads_7 W p hp at_ pos layer head row hok hat
  · exact rreads_8 W p hp at_ pos layer head row hok hat
  · exact rreads_9 W p hp at_ pos layer head row hok hat
  · exact rreads_10 W p hp at_ pos layer head row hok hat
  · exact rreads_11 W p hp at_ pos layer head row hok hat
  · exact rreads_12 W p hp at_ pos layer head row hok hat
  · exact rreads_13 W p hp at_ pos layer head row hok hat
  · exact rreads_14 W p hp at_ pos layer head row hok hat
  · exact rreads_15 W p hp at_ pos layer head row hok hat
  · exact rreads_16 W p hp at_ pos layer head row hok hat
  · exact rreads_17 W p hp at_ pos layer head row hok hat
  · exact rreads_18 W p hp at_ pos layer head row hok hat
  · exact rreads_19 W p hp at_ pos layer head row hok hat
  · exact rreads_20 W p hp at_ pos layer head row hok hat
  · exact rreads_21 W p hp at_ pos layer head row hok hat
  · exact rreads_22 W p hp at_ pos layer head row hok hat
  · exact rreads_23 W p hp at_ pos layer head row hok hat
theorem rwrites_any (W : World) (p : Pln) (hp : Small p) (at_ : Nat) (s : Stp.Stp) (hok : StpOk s at_) (hat : at_ ≤ 64) :
    Calls Try.prog 40 #[.agg (refC p).toArray, s.val] W (fun e w' => e = .returned (.int .i64 (writesV p.places s)) ∧ Below W.heap.size W w') := by
  obtain ⟨k0, pos, layer, head, row⟩ := s
  have hk := hok.kind
  simp only at hk
  rcases (show k0 = 1 ∨ k0 = 2 ∨ k0 = 3 ∨ k0 = 4 ∨ k0 = 5 ∨ k0 = 6 ∨ k0 = 7 ∨ k0 = 8 ∨ k0 = 9 ∨ k0 = 10 ∨ k0 = 11 ∨ k0 = 12 ∨ k0 = 13 ∨ k0 = 14 ∨ k0 = 15 ∨ k0 = 16 ∨ k0 = 17 ∨ k0 = 18 ∨ k0 = 19 ∨ k0 = 20 ∨ k0 = 21 ∨ k0 = 22 ∨ k0 = 23 by omega) with rfl | rfl | rfl | rfl | rfl | rfl | rfl | rfl | rfl | rfl | rfl | rfl | rfl | rfl | rfl | rfl | rfl | rfl | rfl | rfl | rfl | rfl | rfl
  · exact rwrites_1 W p hp at_ pos layer head row hok hat
  · exact rwrites_2 W p hp at_ pos layer head row hok hat
  · exact rwrites_3 W p hp at_ pos layer head row hok hat
  · exact rwrites_4 W p hp at_ pos layer head row hok hat
  · exact rwrites_5 W p hp at_ pos layer head row hok hat
  · exact rwrites_6 W p hp at_ pos layer head row hok hat
  · exact rwrites_7 W p hp at_ pos layer head row hok hat
  · exact rwrites_8 W p hp at_ pos layer head row hok hat
  · exact rwrites_9 W p hp at_ pos layer head row hok hat
  · exact rwrites_10 W p hp at_ pos layer head row hok hat
  · exact rwrites_11 W p hp at_ pos layer head row hok hat
  · exact rwrites_12 W p hp at_ pos layer head row hok hat
  · exact rwrites_13 W p hp at_ pos layer head row hok hat
  · exact rwrites_14 W p hp at_ pos layer head row hok hat
  · exact rwrites_15 W p hp at_ pos layer head row hok hat
  · exact rwrites_16 W p hp at_ pos layer head row hok hat
  · exact rwrites_17 W p hp at_ pos layer head row hok hat
  · exact rwrites_18 W p hp at_ pos layer head row hok hat
  · exact rwrites_19 W p hp at_ pos layer head row hok hat
  · exact rwrites_20 W p hp at_ pos layer head row hok hat
  · exact rwrites_21 W p hp at_ pos layer head row hok hat
  · exact rwrites_22 W p hp at_ pos layer head row hok hat
  · exact rwrites_23 W p hp at_ pos layer head row hok hat
end Go.Proofs.Ytfhaebaegkpkhaa.Tl
