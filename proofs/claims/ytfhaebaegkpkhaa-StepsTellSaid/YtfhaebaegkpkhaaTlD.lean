/- steps.Plan.Writes; Reads, Writes of any step of a plan. Printed by genptw.py. -/
import Derived.Test.YtfhaebaegkpkhaaTlC
set_option linter.unusedVariables false
set_option linter.unusedSimpArgs false
namespace Go.Proofs.Ytfhaebaegkpkhaa.Tl
open Go.RowKit OwnS Byt Cfg Stp Pln QTail RevL Rf12 Ten
attribute [local go_sem ↓] Kit.execOp_call_slot
attribute [local go_sem] Kit.callSlot_func
theorem index_ints (w : World) (cs : Array Value) (k : Nat) (hk : k < 24) (hs : cs.size = 24) : (Instr.index 163 (.agg cs) (.int .i64 (k : Int))).run Try.prog w = .ok (cs[k]'(by omega)) w := by
  have hu : Try.prog.underlying 163 = some (.array 24 3) := by kernel_rfl
  unfold Instr.index
  simp [go_sem, run_underlying hu, run_underlying Try.underlying3]
  rw [if_pos hk, Array.getElem?_eq_getElem (by omega)]
  rfl
set_option maxRecDepth 100000 in
set_option maxHeartbeats 4000000 in
theorem writes_1 (W : World) (p : Pln) (ctx K : Int) (h : Okp p ctx K) (at_ : Nat) (hat : at_ < p.places) (pos layer head row : Int) (hs : (⟨1, pos, layer, head, row⟩ : Stp.Stp) ∈ Stp.placeL p at_) :
    Calls Try.prog 39 #[.agg (planC p ctx K).toArray, .agg #[.int .i64 1, .int .i64 pos, .int .i64 layer, .int .i64 head, .int .i64 row]] W (fun e w' => e = .returned (.int .i64 (writesV p.places ⟨1, pos, layer, head, row⟩)) ∧ Below W.heap.size W w') := by
  obtain ⟨hb, f1, f2⟩ := h.facts
  have hpb : p.places ≤ 64 := by unfold Pln.places; omega
  have hok := ok_place hb (by omega) hs
  have hra := rat_of W p ctx K h at_ hat 1 pos layer head row hs hok.pos
  obtain ⟨w1, hw1⟩ : ∃ w1, w1 = (W.alloc (.cells (planC p ctx K).toArray 62)).alloc (.cells #[.int .i64 1, .int .i64 pos, .int .i64 layer, .int .i64 head, .int .i64 row] 69) := ⟨_, rfl⟩
  rw [← hw1] at hra
  have HW := Lib.hid hw1
  have HC := Lib.hid hra
  clear hw1 hra hs hok hb f1 f2 hpb hat
  go_enter Try.func39, Try.ntmps39
  go_upto_region 1 with fail
  rw [← HW.out]
  go_upto_region 3 with (first | (refine wpList_load_mid rfl 62 (.tmp 2) rfl W.heap.size 0 rfl (planC p ctx K) _ (rangeAt_whole HC.out.pl) Try.underlying62 rfl plan_size ?_; simp only [Act.put, List.setIfInBounds_toArray, List.set_cons_succ, List.set_cons_zero]) | (refine wpList_load_mid rfl 69 (.tmp 3) rfl (W.heap.size + 1) 0 rfl (Stp.Stp.cells ⟨1, pos, layer, head, row⟩) _ (rangeAt_whole HC.out.st) Try.underlying69 rfl step_size ?_; simp only [Act.put, List.setIfInBounds_toArray, List.set_cons_succ, List.set_cons_zero]) | (go_at_call 85; (with_reducible refine Calls.mono HC.out.has ?_); rintro e w2 ⟨rfl, hb2⟩; have HB := Lib.hid hb2; clear hb2))
  have hst2 := (HB.out.block _ (Array.getElem?_eq_some_iff.1 HC.out.st).1).trans HC.out.st
  have hpl2 := (HB.out.block _ (Array.getElem?_eq_some_iff.1 HC.out.pl).1).trans HC.out.pl
  have c0 : w2.cell? ⟨W.heap.size + 1, 0, none⟩ = some (.int .i64 1) := by rw [cell_of_row _ _ 0 _ _ _ hst2]; rfl
  have c1 : w2.cell? ⟨W.heap.size + 1, 1, none⟩ = some (.int .i64 pos) := by rw [cell_of_row _ _ 1 _ _ _ hst2]; rfl
  have c2 : w2.cell? ⟨W.heap.size + 1, 2, none⟩ = some (.int .i64 layer) := by rw [cell_of_row _ _ 2 _ _ _ hst2]; rfl
  have c4 : w2.cell? ⟨W.heap.size + 1, 4, none⟩ = some (.int .i64 row) := by rw [cell_of_row _ _ 4 _ _ _ hst2]; rfl
  have hb12 := HB.out
  have HT := Lib.hid (And.intro hst2 (And.intro hpl2 (below_chain HC.out.below HB.out)))
  clear hst2 hpl2 hb12
  have hix : ∀ w, (Instr.index 163 (.agg #[.int .i64 0, .int .i64 1, .int .i64 2, .int .i64 3, .int .i64 4, .int .i64 5, .int .i64 3, .int .i64 0, .int .i64 0, .int .i64 7, .int .i64 7, .int .i64 6, .int .i64 10, .int .i64 1, .int .i64 2, .int .i64 8, .int .i64 8, .int .i64 9, .int .i64 8, .int .i64 10, .int .i64 1, .int .i64 2, .int .i64 11, .int .i64 0]) (.int .i64 1)).run Try.prog w = .ok (.int .i64 1) w := fun w => index_ints w _ 1 (by decide) rfl
  go_wp2_with fail
  go_ret
  exact ⟨rfl, HT.out.2.2⟩
set_option maxRecDepth 100000 in
set_option maxHeartbeats 4000000 in
theorem writes_2 (W : World) (p : Pln) (ctx K : Int) (h : Okp p ctx K) (at_ : Nat) (hat : at_ < p.places) (pos layer head row : Int) (hs : (⟨2, pos, layer, head, row⟩ : Stp.Stp) ∈ Stp.placeL p at_) :
    Calls Try.prog 39 #[.agg (planC p ctx K).toArray, .agg #[.int .i64 2, .int .i64 pos, .int .i64 layer, .int .i64 head, .int .i64 row]] W (fun e w' => e = .returned (.int .i64 (writesV p.places ⟨2, pos, layer, head, row⟩)) ∧ Below W.heap.size W w') := by
  obtain ⟨hb, f1, f2⟩ := h.facts
  have hpb : p.places ≤ 64 := by unfold Pln.places; omega
  have hok := ok_place hb (by omega) hs
  have hra := rat_of W p ctx K h at_ hat 2 pos layer head row hs hok.pos
  obtain ⟨w1, hw1⟩ : ∃ w1, w1 = (W.alloc (.cells (planC p ctx K).toArray 62)).alloc (.cells #[.int .i64 2, .int .i64 pos, .int .i64 layer, .int .i64 head, .int .i64 row] 69) := ⟨_, rfl⟩
  rw [← hw1] at hra
  have HW := Lib.hid hw1
  have HC := Lib.hid hra
  clear hw1 hra hs hok hb f1 f2 hpb hat
  go_enter Try.func39, Try.ntmps39
  go_upto_region 1 with fail
  rw [← HW.out]
  go_upto_region 3 with (first | (refine wpList_load_mid rfl 62 (.tmp 2) rfl W.heap.size 0 rfl (planC p ctx K) _ (rangeAt_whole HC.out.pl) Try.underlying62 rfl plan_size ?_; simp only [Act.put, List.setIfInBounds_toArray, List.set_cons_succ, List.set_cons_zero]) | (refine wpList_load_mid rfl 69 (.tmp 3) rfl (W.heap.size + 1) 0 rfl (Stp.Stp.cells ⟨2, pos, layer, head, row⟩) _ (rangeAt_whole HC.out.st) Try.underlying69 rfl step_size ?_; simp only [Act.put, List.setIfInBounds_toArray, List.set_cons_succ, List.set_cons_zero]) | (go_at_call 85; (with_reducible refine Calls.mono HC.out.has ?_); rintro e w2 ⟨rfl, hb2⟩; have HB := Lib.hid hb2; clear hb2))
  have hst2 := (HB.out.block _ (Array.getElem?_eq_some_iff.1 HC.out.st).1).trans HC.out.st
  have hpl2 := (HB.out.block _ (Array.getElem?_eq_some_iff.1 HC.out.pl).1).trans HC.out.pl
  have c0 : w2.cell? ⟨W.heap.size + 1, 0, none⟩ = some (.int .i64 2) := by rw [cell_of_row _ _ 0 _ _ _ hst2]; rfl
  have c1 : w2.cell? ⟨W.heap.size + 1, 1, none⟩ = some (.int .i64 pos) := by rw [cell_of_row _ _ 1 _ _ _ hst2]; rfl
  have c2 : w2.cell? ⟨W.heap.size + 1, 2, none⟩ = some (.int .i64 layer) := by rw [cell_of_row _ _ 2 _ _ _ hst2]; rfl
  have c4 : w2.cell? ⟨W.heap.size + 1, 4, none⟩ = some (.int .i64 row) := by rw [cell_of_row _ _ 4 _ _ _ hst2]; rfl
  have hb12 := HB.out
  have HT := Lib.hid (And.intro hst2 (And.intro hpl2 (below_chain HC.out.below HB.out)))
  clear hst2 hpl2 hb12
  have hix : ∀ w, (Instr.index 163 (.agg #[.int .i64 0, .int .i64 1, .int .i64 2, .int .i64 3, .int .i64 4, .int .i64 5, .int .i64 3, .int .i64 0, .int .i64 0, .int .i64 7, .int .i64 7, .int .i64 6, .int .i64 10, .int .i64 1, .int .i64 2, .int .i64 8, .int .i64 8, .int .i64 9, .int .i64 8, .int .i64 10, .int .i64 1, .int .i64 2, .int .i64 11, .int .i64 0]) (.int .i64 2)).run Try.prog w = .ok (.int .i64 2) w := fun w => index_ints w _ 2 (by decide) rfl
  go_wp2_with fail
  go_ret
  exact ⟨rfl, HT.out.2.2⟩
set_option maxRecDepth 100000 in
set_option maxHeartbeats 4000000 in
theorem writes_3 (W : World) (p : Pln) (ctx K : Int) (h : Okp p ctx K) (at_ : Nat) (hat : at_ < p.places) (pos layer head row : Int) (hs : (⟨3, pos, layer, head, row⟩ : Stp.Stp) ∈ Stp.placeL p at_) :
    Calls Try.prog 39 #[.agg (planC p ctx K).toArray, .agg #[.int .i64 3, .int .i64 pos, .int .i64 layer, .int .i64 head, .int .i64 row]] W (fun e w' => e = .returned (.int .i64 (writesV p.places ⟨3, pos, layer, head, row⟩)) ∧ Below W.heap.size W w') := by
  obtain ⟨hb, f1, f2⟩ := h.facts
  have hpb : p.places ≤ 64 := by unfold Pln.places; omega
  have hok := ok_place hb (by omega) hs
  have hra := rat_of W p ctx K h at_ hat 3 pos layer head row hs hok.pos
  obtain ⟨w1, hw1⟩ : ∃ w1, w1 = (W.alloc (.cells (planC p ctx K).toArray 62)).alloc (.cells #[.int .i64 3, .int .i64 pos, .int .i64 layer, .int .i64 head, .int .i64 row] 69) := ⟨_, rfl⟩
  rw [← hw1] at hra
  have HW := Lib.hid hw1
  have HC := Lib.hid hra
  clear hw1 hra hs hok hb f1 f2 hpb hat
  go_enter Try.func39, Try.ntmps39
  go_upto_region 1 with fail
  rw [← HW.out]
  go_upto_region 3 with (first | (refine wpList_load_mid rfl 62 (.tmp 2) rfl W.heap.size 0 rfl (planC p ctx K) _ (rangeAt_whole HC.out.pl) Try.underlying62 rfl plan_size ?_; simp only [Act.put, List.setIfInBounds_toArray, List.set_cons_succ, List.set_cons_zero]) | (refine wpList_load_mid rfl 69 (.tmp 3) rfl (W.heap.size + 1) 0 rfl (Stp.Stp.cells ⟨3, pos, layer, head, row⟩) _ (rangeAt_whole HC.out.st) Try.underlying69 rfl step_size ?_; simp only [Act.put, List.setIfInBounds_toArray, List.set_cons_succ, List.set_cons_zero]) | (go_at_call 85; (with_reducible refine Calls.mono HC.out.has ?_); rintro e w2 ⟨rfl, hb2⟩; have HB := Lib.hid hb2; clear hb2))
  have hst2 := (HB.out.block _ (Array.getElem?_eq_some_iff.1 HC.out.st).1).trans HC.out.st
  have hpl2 := (HB.out.block _ (Array.getElem?_eq_some_iff.1 HC.out.pl).1).trans HC.out.pl
  have c0 : w2.cell? ⟨W.heap.size + 1, 0, none⟩ = some (.int .i64 3) := by rw [cell_of_row _ _ 0 _ _ _ hst2]; rfl
  have c1 : w2.cell? ⟨W.heap.size + 1, 1, none⟩ = some (.int .i64 pos) := by rw [cell_of_row _ _ 1 _ _ _ hst2]; rfl
  have c2 : w2.cell? ⟨W.heap.size + 1, 2, none⟩ = some (.int .i64 layer) := by rw [cell_of_row _ _ 2 _ _ _ hst2]; rfl
  have c4 : w2.cell? ⟨W.heap.size + 1, 4, none⟩ = some (.int .i64 row) := by rw [cell_of_row _ _ 4 _ _ _ hst2]; rfl
  have hb12 := HB.out
  have HT := Lib.hid (And.intro hst2 (And.intro hpl2 (below_chain HC.out.below HB.out)))
  clear hst2 hpl2 hb12
  have hix : ∀ w, (Instr.index 163 (.agg #[.int .i64 0, .int .i64 1, .int .i64 2, .int .i64 3, .int .i64 4, .int .i64 5, .int .i64 3, .int .i64 0, .int .i64 0, .int .i64 7, .int .i64 7, .int .i64 6, .int .i64 10, .int .i64 1, .int .i64 2, .int .i64 8, .int .i64 8, .int .i64 9, .int .i64 8, .int .i64 10, .int .i64 1, .int .i64 2, .int .i64 11, .int .i64 0]) (.int .i64 3)).run Try.prog w = .ok (.int .i64 3) w := fun w => index_ints w _ 3 (by decide) rfl
  go_wp2_with fail
  go_ret
  exact ⟨rfl, HT.out.2.2⟩
set_option maxRecDepth 100000 in
set_option maxHeartbeats 4000000 in
theorem writes_4 (W : World) (p : Pln) (ctx K : Int) (h : Okp p ctx K) (at_ : Nat) (hat : at_ < p.places) (pos layer head row : Int) (hs : (⟨4, pos, layer, head, row⟩ : Stp.Stp) ∈ Stp.placeL p at_) :
    Calls Try.prog 39 #[.agg (planC p ctx K).toArray, .agg #[.int .i64 4, .int .i64 pos, .int .i64 layer, .int .i64 head, .int .i64 row]] W (fun e w' => e = .returned (.int .i64 (writesV p.places ⟨4, pos, layer, head, row⟩)) ∧ Below W.heap.size W w') := by
  obtain ⟨hb, f1, f2⟩ := h.facts
  have hpb : p.places ≤ 64 := by unfold Pln.places; omega
  have hok := ok_place hb (by omega) hs
  have hra := rat_of W p ctx K h at_ hat 4 pos layer head row hs hok.pos
  obtain ⟨w1, hw1⟩ : ∃ w1, w1 = (W.alloc (.cells (planC p ctx K).toArray 62)).alloc (.cells #[.int .i64 4, .int .i64 pos, .int .i64 layer, .int .i64 head, .int .i64 row] 69) := ⟨_, rfl⟩
  rw [← hw1] at hra
  have HW := Lib.hid hw1
  have HC := Lib.hid hra
  clear hw1 hra hs hok hb f1 f2 hpb hat
  go_enter Try.func39, Try.ntmps39
  go_upto_region 1 with fail
  rw [← HW.out]
  go_upto_region 3 with (first | (refine wpList_load_mid rfl 62 (.tmp 2) rfl W.heap.size 0 rfl (planC p ctx K) _ (rangeAt_whole HC.out.pl) Try.underlying62 rfl plan_size ?_; simp only [Act.put, List.setIfInBounds_toArray, List.set_cons_succ, List.set_cons_zero]) | (refine wpList_load_mid rfl 69 (.tmp 3) rfl (W.heap.size + 1) 0 rfl (Stp.Stp.cells ⟨4, pos, layer, head, row⟩) _ (rangeAt_whole HC.out.st) Try.underlying69 rfl step_size ?_; simp only [Act.put, List.setIfInBounds_toArray, List.set_cons_succ, List.set_cons_zero]) | (go_at_call 85; (with_reducible refine Calls.mono HC.out.has ?_); rintro e w2 ⟨rfl, hb2⟩; have HB := Lib.hid hb2; clear hb2))
  have hst2 := (HB.out.block _ (Array.getElem?_eq_some_iff.1 HC.out.st).1).trans HC.out.st
  have hpl2 := (HB.out.block _ (Array.getElem?_eq_some_iff.1 HC.out.pl).1).trans HC.out.pl
  have c0 : w2.cell? ⟨W.heap.size + 1, 0, none⟩ = some (.int .i64 4) := by rw [cell_of_row _ _ 0 _ _ _ hst2]; rfl
  have c1 : w2.cell? ⟨W.heap.size + 1, 1, none⟩ = some (.int .i64 pos) := by rw [cell_of_row _ _ 1 _ _ _ hst2]; rfl
  have c2 : w2.cell? ⟨W.heap.size + 1, 2, none⟩ = some (.int .i64 layer) := by rw [cell_of_row _ _ 2 _ _ _ hst2]; rfl
  have c4 : w2.cell? ⟨W.heap.size + 1, 4, none⟩ = some (.int .i64 row) := by rw [cell_of_row _ _ 4 _ _ _ hst2]; rfl
  have hb12 := HB.out
  have HT := Lib.hid (And.intro hst2 (And.intro hpl2 (below_chain HC.out.below HB.out)))
  clear hst2 hpl2 hb12
  have hix : ∀ w, (Instr.index 163 (.agg #[.int .i64 0, .int .i64 1, .int .i64 2, .int .i64 3, .int .i64 4, .int .i64 5, .int .i64 3, .int .i64 0, .int .i64 0, .int .i64 7, .int .i64 7, .int .i64 6, .int .i64 10, .int .i64 1, .int .i64 2, .int .i64 8, .int .i64 8, .int .i64 9, .int .i64 8, .int .i64 10, .int .i64 1, .int .i64 2, .int .i64 11, .int .i64 0]) (.int .i64 4)).run Try.prog w = .ok (.int .i64 4) w := fun w => index_ints w _ 4 (by decide) rfl
  go_wp2_with fail
  go_ret
  exact ⟨rfl, HT.out.2.2⟩
set_option maxRecDepth 100000 in
set_option maxHeartbeats 4000000 in
theorem writes_5 (W : World) (p : Pln) (ctx K : Int) (h : Okp p ctx K) (at_ : Nat) (hat : at_ < p.places) (pos layer head row : Int) (hs : (⟨5, pos, layer, head, row⟩ : Stp.Stp) ∈ Stp.placeL p at_) :
    Calls Try.prog 39 #[.agg (planC p ctx K).toArray, .agg #[.int .i64 5, .int .i64 pos, .int .i64 layer, .int .i64 head, .int .i64 row]] W (fun e w' => e = .returned (.int .i64 (writesV p.places ⟨5, pos, layer, head, row⟩)) ∧ Below W.heap.size W w') := by
  obtain ⟨hb, f1, f2⟩ := h.facts
  have hpb : p.places ≤ 64 := by unfold Pln.places; omega
  have hok := ok_place hb (by omega) hs
  have hra := rat_of W p ctx K h at_ hat 5 pos layer head row hs hok.pos
  obtain ⟨w1, hw1⟩ : ∃ w1, w1 = (W.alloc (.cells (planC p ctx K).toArray 62)).alloc (.cells #[.int .i64 5, .int .i64 pos, .int .i64 layer, .int .i64 head, .int .i64 row] 69) := ⟨_, rfl⟩
  rw [← hw1] at hra
  have HW := Lib.hid hw1
  have HC := Lib.hid hra
  clear hw1 hra hs hok hb f1 f2 hpb hat
  go_enter Try.func39, Try.ntmps39
  go_upto_region 1 with fail
  rw [← HW.out]
  go_upto_region 3 with (first | (refine wpList_load_mid rfl 62 (.tmp 2) rfl W.heap.size 0 rfl (planC p ctx K) _ (rangeAt_whole HC.out.pl) Try.underlying62 rfl plan_size ?_; simp only [Act.put, List.setIfInBounds_toArray, List.set_cons_succ, List.set_cons_zero]) | (refine wpList_load_mid rfl 69 (.tmp 3) rfl (W.heap.size + 1) 0 rfl (Stp.Stp.cells ⟨5, pos, layer, head, row⟩) _ (rangeAt_whole HC.out.st) Try.underlying69 rfl step_size ?_; simp only [Act.put, List.setIfInBounds_toArray, List.set_cons_succ, List.set_cons_zero]) | (go_at_call 85; (with_reducible refine Calls.mono HC.out.has ?_); rintro e w2 ⟨rfl, hb2⟩; have HB := Lib.hid hb2; clear hb2))
  have hst2 := (HB.out.block _ (Array.getElem?_eq_some_iff.1 HC.out.st).1).trans HC.out.st
  have hpl2 := (HB.out.block _ (Array.getElem?_eq_some_iff.1 HC.out.pl).1).trans HC.out.pl
  have c0 : w2.cell? ⟨W.heap.size + 1, 0, none⟩ = some (.int .i64 5) := by rw [cell_of_row _ _ 0 _ _ _ hst2]; rfl
  have c1 : w2.cell? ⟨W.heap.size + 1, 1, none⟩ = some (.int .i64 pos) := by rw [cell_of_row _ _ 1 _ _ _ hst2]; rfl
  have c2 : w2.cell? ⟨W.heap.size + 1, 2, none⟩ = some (.int .i64 layer) := by rw [cell_of_row _ _ 2 _ _ _ hst2]; rfl
  have c4 : w2.cell? ⟨W.heap.size + 1, 4, none⟩ = some (.int .i64 row) := by rw [cell_of_row _ _ 4 _ _ _ hst2]; rfl
  have hb12 := HB.out
  have HT := Lib.hid (And.intro hst2 (And.intro hpl2 (below_chain HC.out.below HB.out)))
  clear hst2 hpl2 hb12
  have hix : ∀ w, (Instr.index 163 (.agg #[.int .i64 0, .int .i64 1, .int .i64 2, .int .i64 3, .int .i64 4, .int .i64 5, .int .i64 3, .int .i64 0, .int .i64 0, .int .i64 7, .int .i64 7, .int .i64 6, .int .i64 10, .int .i64 1, .int .i64 2, .int .i64 8, .int .i64 8, .int .i64 9, .int .i64 8, .int .i64 10, .int .i64 1, .int .i64 2, .int .i64 11, .int .i64 0]) (.int .i64 5)).run Try.prog w = .ok (.int .i64 5) w := fun w => index_ints w _ 5 (by decide) rfl
  go_wp2_with fail
  go_ret
  exact ⟨rfl, HT.out.2.2⟩
set_option maxRecDepth 100000 in
set_option maxHeartbeats 4000000 in
theorem writes_6 (W : World) (p : Pln) (ctx K : Int) (h : Okp p ctx K) (at_ : Nat) (hat : at_ < p.places) (pos layer head row : Int) (hs : (⟨6, pos, layer, head, row⟩ : Stp.Stp) ∈ Stp.placeL p at_) :
    Calls Try.prog 39 #[.agg (planC p ctx K).toArray, .agg #[.int .i64 6, .int .i64 pos, .int .i64 layer, .int .i64 head, .int .i64 row]] W (fun e w' => e = .returned (.int .i64 (writesV p.places ⟨6, pos, layer, head, row⟩)) ∧ Below W.heap.size W w') := by
  obtain ⟨hb, f1, f2⟩ := h.facts
  have hpb : p.places ≤ 64 := by unfold Pln.places; omega
  have hok := ok_place hb (by omega) hs
  have hra := rat_of W p ctx K h at_ hat 6 pos layer head row hs hok.pos
  obtain ⟨w1, hw1⟩ : ∃ w1, w1 = (W.alloc (.cells (planC p ctx K).toArray 62)).alloc (.cells #[.int .i64 6, .int .i64 pos, .int .i64 layer, .int .i64 head, .int .i64 row] 69) := ⟨_, rfl⟩
  rw [← hw1] at hra
  have HW := Lib.hid hw1
  have HC := Lib.hid hra
  clear hw1 hra hs hok hb f1 f2 hpb hat
  go_enter Try.func39, Try.ntmps39
  go_upto_region 1 with fail
  rw [← HW.out]
  go_upto_region 3 with (first | (refine wpList_load_mid rfl 62 (.tmp 2) rfl W.heap.size 0 rfl (planC p ctx K) _ (rangeAt_whole HC.out.pl) Try.underlying62 rfl plan_size ?_; simp only [Act.put, List.setIfInBounds_toArray, List.set_cons_succ, List.set_cons_zero]) | (refine wpList_load_mid rfl 69 (.tmp 3) rfl (W.heap.size + 1) 0 rfl (Stp.Stp.cells ⟨6, pos, layer, head, row⟩) _ (rangeAt_whole HC.out.st) Try.underlying69 rfl step_size ?_; simp only [Act.put, List.setIfInBounds_toArray, List.set_cons_succ, List.set_cons_zero]) | (go_at_call 85; (with_reducible refine Calls.mono HC.out.has ?_); rintro e w2 ⟨rfl, hb2⟩; have HB := Lib.hid hb2; clear hb2))
  have hst2 := (HB.out.block _ (Array.getElem?_eq_some_iff.1 HC.out.st).1).trans HC.out.st
  have hpl2 := (HB.out.block _ (Array.getElem?_eq_some_iff.1 HC.out.pl).1).trans HC.out.pl
  have c0 : w2.cell? ⟨W.heap.size + 1, 0, none⟩ = some (.int .i64 6) := by rw [cell_of_row _ _ 0 _ _ _ hst2]; rfl
  have c1 : w2.cell? ⟨W.heap.size + 1, 1, none⟩ = some (.int .i64 pos) := by rw [cell_of_row _ _ 1 _ _ _ hst2]; rfl
  have c2 : w2.cell? ⟨W.heap.size + 1, 2, none⟩ = some (.int .i64 layer) := by rw [cell_of_row _ _ 2 _ _ _ hst2]; rfl
  have c4 : w2.cell? ⟨W.heap.size + 1, 4, none⟩ = some (.int .i64 row) := by rw [cell_of_row _ _ 4 _ _ _ hst2]; rfl
  have hb12 := HB.out
  have HT := Lib.hid (And.intro hst2 (And.intro hpl2 (below_chain HC.out.below HB.out)))
  clear hst2 hpl2 hb12
  have hix : ∀ w, (Instr.index 163 (.agg #[.int .i64 0, .int .i64 1, .int .i64 2, .int .i64 3, .int .i64 4, .int .i64 5, .int .i64 3, .int .i64 0, .int .i64 0, .int .i64 7, .int .i64 7, .int .i64 6, .int .i64 10, .int .i64 1, .int .i64 2, .int .i64 8, .int .i64 8, .int .i64 9, .int .i64 8, .int .i64 10, .int .i64 1, .int .i64 2, .int .i64 11, .int .i64 0]) (.int .i64 6)).run Try.prog w = .ok (.int .i64 3) w := fun w => index_ints w _ 6 (by decide) rfl
  go_wp2_with fail
  go_ret
  exact ⟨rfl, HT.out.2.2⟩
set_option maxRecDepth 100000 in
set_option maxHeartbeats 4000000 in
theorem writes_7 (W : World) (p : Pln) (ctx K : Int) (h : Okp p ctx K) (at_ : Nat) (hat : at_ < p.places) (pos layer head row : Int) (hs : (⟨7, pos, layer, head, row⟩ : Stp.Stp) ∈ Stp.placeL p at_) :
    Calls Try.prog 39 #[.agg (planC p ctx K).toArray, .agg #[.int .i64 7, .int .i64 pos, .int .i64 layer, .int .i64 head, .int .i64 row]] W (fun e w' => e = .returned (.int .i64 (writesV p.places ⟨7, pos, layer, head, row⟩)) ∧ Below W.heap.size W w') := by
  obtain ⟨hb, f1, f2⟩ := h.facts
  have hpb : p.places ≤ 64 := by unfold Pln.places; omega
  have hok := ok_place hb (by omega) hs
  have hra := rat_of W p ctx K h at_ hat 7 pos layer head row hs hok.pos
  obtain ⟨w1, hw1⟩ : ∃ w1, w1 = (W.alloc (.cells (planC p ctx K).toArray 62)).alloc (.cells #[.int .i64 7, .int .i64 pos, .int .i64 layer, .int .i64 head, .int .i64 row] 69) := ⟨_, rfl⟩
  rw [← hw1] at hra
  obtain ⟨kv, hkv⟩ : ∃ kv, kv = keyV p.places layer pos := ⟨_, rfl⟩
  have hky := fun w => key_any w p ctx K h layer pos hok.layer (by have := hok.pos; simp only at this; omega)
  have hkb : 0 ≤ kv ∧ kv ≤ 100000 := by
    have := key_bound (l := layer) hpb hok.layer
    have := hok.pos
    simp only at this
    rw [hkv]
    unfold keyV
    omega
  rw [← hkv] at hky
  have hrl : writesV p.places ⟨7, pos, layer, head, row⟩ = kv := by rw [hkv]; rfl
  rw [hrl]
  have HK := Lib.hid hky
  clear hky hkv hrl
  have HW := Lib.hid hw1
  have HC := Lib.hid hra
  clear hw1 hra hs hok hb f1 f2 hpb hat
  go_enter Try.func39, Try.ntmps39
  go_upto_region 1 with fail
  rw [← HW.out]
  go_upto_region 3 with (first | (refine wpList_load_mid rfl 62 (.tmp 2) rfl W.heap.size 0 rfl (planC p ctx K) _ (rangeAt_whole HC.out.pl) Try.underlying62 rfl plan_size ?_; simp only [Act.put, List.setIfInBounds_toArray, List.set_cons_succ, List.set_cons_zero]) | (refine wpList_load_mid rfl 69 (.tmp 3) rfl (W.heap.size + 1) 0 rfl (Stp.Stp.cells ⟨7, pos, layer, head, row⟩) _ (rangeAt_whole HC.out.st) Try.underlying69 rfl step_size ?_; simp only [Act.put, List.setIfInBounds_toArray, List.set_cons_succ, List.set_cons_zero]) | (go_at_call 85; (with_reducible refine Calls.mono HC.out.has ?_); rintro e w2 ⟨rfl, hb2⟩; have HB := Lib.hid hb2; clear hb2))
  have hst2 := (HB.out.block _ (Array.getElem?_eq_some_iff.1 HC.out.st).1).trans HC.out.st
  have hpl2 := (HB.out.block _ (Array.getElem?_eq_some_iff.1 HC.out.pl).1).trans HC.out.pl
  have c0 : w2.cell? ⟨W.heap.size + 1, 0, none⟩ = some (.int .i64 7) := by rw [cell_of_row _ _ 0 _ _ _ hst2]; rfl
  have c1 : w2.cell? ⟨W.heap.size + 1, 1, none⟩ = some (.int .i64 pos) := by rw [cell_of_row _ _ 1 _ _ _ hst2]; rfl
  have c2 : w2.cell? ⟨W.heap.size + 1, 2, none⟩ = some (.int .i64 layer) := by rw [cell_of_row _ _ 2 _ _ _ hst2]; rfl
  have c4 : w2.cell? ⟨W.heap.size + 1, 4, none⟩ = some (.int .i64 row) := by rw [cell_of_row _ _ 4 _ _ _ hst2]; rfl
  have hb12 := HB.out
  have HT := Lib.hid (And.intro hst2 (And.intro hpl2 (below_chain HC.out.below HB.out)))
  clear hst2 hpl2 hb12
  go_wp2_with (first | (refine wpList_load_mid rfl 62 (.tmp 2) rfl W.heap.size 0 rfl (planC p ctx K) _ (rangeAt_whole HT.out.2.1) Try.underlying62 rfl plan_size ?_; simp only [Act.put, List.setIfInBounds_toArray, List.set_cons_succ, List.set_cons_zero]) | (go_at_call 86; (with_reducible refine Calls.mono (HK.out w2) ?_); rintro e w3 ⟨rfl, hb3⟩; have H3 := Lib.hid hb3; clear hb3))
  go_ret
  exact ⟨rfl, below_chain HT.out.2.2 H3.out⟩
set_option maxRecDepth 100000 in
set_option maxHeartbeats 4000000 in
theorem writes_8 (W : World) (p : Pln) (ctx K : Int) (h : Okp p ctx K) (at_ : Nat) (hat : at_ < p.places) (pos layer head row : Int) (hs : (⟨8, pos, layer, head, row⟩ : Stp.Stp) ∈ Stp.placeL p at_) :
    Calls Try.prog 39 #[.agg (planC p ctx K).toArray, .agg #[.int .i64 8, .int .i64 pos, .int .i64 layer, .int .i64 head, .int .i64 row]] W (fun e w' => e = .returned (.int .i64 (writesV p.places ⟨8, pos, layer, head, row⟩)) ∧ Below W.heap.size W w') := by
  obtain ⟨hb, f1, f2⟩ := h.facts
  have hpb : p.places ≤ 64 := by unfold Pln.places; omega
  have hok := ok_place hb (by omega) hs
  have hra := rat_of W p ctx K h at_ hat 8 pos layer head row hs hok.pos
  obtain ⟨w1, hw1⟩ : ∃ w1, w1 = (W.alloc (.cells (planC p ctx K).toArray 62)).alloc (.cells #[.int .i64 8, .int .i64 pos, .int .i64 layer, .int .i64 head, .int .i64 row] 69) := ⟨_, rfl⟩
  rw [← hw1] at hra
  obtain ⟨kv, hkv⟩ : ∃ kv, kv = keyV p.places layer pos := ⟨_, rfl⟩
  have hky := fun w => key_any w p ctx K h layer pos hok.layer (by have := hok.pos; simp only at this; omega)
  have hkb : 0 ≤ kv ∧ kv ≤ 100000 := by
    have := key_bound (l := layer) hpb hok.layer
    have := hok.pos
    simp only at this
    rw [hkv]
    unfold keyV
    omega
  rw [← hkv] at hky
  have hrl : writesV p.places ⟨8, pos, layer, head, row⟩ = kv + 1 := by rw [hkv]; rfl
  rw [hrl]
  have HK := Lib.hid hky
  clear hky hkv hrl
  have HW := Lib.hid hw1
  have HC := Lib.hid hra
  clear hw1 hra hs hok hb f1 f2 hpb hat
  go_enter Try.func39, Try.ntmps39
  go_upto_region 1 with fail
  rw [← HW.out]
  go_upto_region 3 with (first | (refine wpList_load_mid rfl 62 (.tmp 2) rfl W.heap.size 0 rfl (planC p ctx K) _ (rangeAt_whole HC.out.pl) Try.underlying62 rfl plan_size ?_; simp only [Act.put, List.setIfInBounds_toArray, List.set_cons_succ, List.set_cons_zero]) | (refine wpList_load_mid rfl 69 (.tmp 3) rfl (W.heap.size + 1) 0 rfl (Stp.Stp.cells ⟨8, pos, layer, head, row⟩) _ (rangeAt_whole HC.out.st) Try.underlying69 rfl step_size ?_; simp only [Act.put, List.setIfInBounds_toArray, List.set_cons_succ, List.set_cons_zero]) | (go_at_call 85; (with_reducible refine Calls.mono HC.out.has ?_); rintro e w2 ⟨rfl, hb2⟩; have HB := Lib.hid hb2; clear hb2))
  have hst2 := (HB.out.block _ (Array.getElem?_eq_some_iff.1 HC.out.st).1).trans HC.out.st
  have hpl2 := (HB.out.block _ (Array.getElem?_eq_some_iff.1 HC.out.pl).1).trans HC.out.pl
  have c0 : w2.cell? ⟨W.heap.size + 1, 0, none⟩ = some (.int .i64 8) := by rw [cell_of_row _ _ 0 _ _ _ hst2]; rfl
  have c1 : w2.cell? ⟨W.heap.size + 1, 1, none⟩ = some (.int .i64 pos) := by rw [cell_of_row _ _ 1 _ _ _ hst2]; rfl
  have c2 : w2.cell? ⟨W.heap.size + 1, 2, none⟩ = some (.int .i64 layer) := by rw [cell_of_row _ _ 2 _ _ _ hst2]; rfl
  have c4 : w2.cell? ⟨W.heap.size + 1, 4, none⟩ = some (.int .i64 row) := by rw [cell_of_row _ _ 4 _ _ _ hst2]; rfl
  have hb12 := HB.out
  have HT := Lib.hid (And.intro hst2 (And.intro hpl2 (below_chain HC.out.below HB.out)))
  clear hst2 hpl2 hb12
  go_wp2_with (first | (refine wpList_load_mid rfl 62 (.tmp 2) rfl W.heap.size 0 rfl (planC p ctx K) _ (rangeAt_whole HT.out.2.1) Try.underlying62 rfl plan_size ?_; simp only [Act.put, List.setIfInBounds_toArray, List.set_cons_succ, List.set_cons_zero]) | (go_at_call 86; (with_reducible refine Calls.mono (HK.out w2) ?_); rintro e w3 ⟨rfl, hb3⟩; have H3 := Lib.hid hb3; clear hb3))
  go_ret
  exact ⟨rfl, below_chain HT.out.2.2 H3.out⟩
set_option maxRecDepth 100000 in
set_option maxHeartbeats 4000000 in
theorem writes_9 (W : World) (p : Pln) (ctx K : Int) (h : Okp p ctx K) (at_ : Nat) (hat : at_ < p.places) (pos layer head row : Int) (hs : (⟨9, pos, layer, head, row⟩ : Stp.Stp) ∈ Stp.placeL p at_) :
    Calls Try.prog 39 #[.agg (planC p ctx K).toArray, .agg #[.int .i64 9, .int .i64 pos, .int .i64 layer, .int .i64 head, .int .i64 row]] W (fun e w' => e = .returned (.int .i64 (writesV p.places ⟨9, pos, layer, head, row⟩)) ∧ Below W.heap.size W w') := by
  obtain ⟨hb, f1, f2⟩ := h.facts
  have hpb : p.places ≤ 64 := by unfold Pln.places; omega
  have hok := ok_place hb (by omega) hs
  have hra := rat_of W p ctx K h at_ hat 9 pos layer head row hs hok.pos
  obtain ⟨w1, hw1⟩ : ∃ w1, w1 = (W.alloc (.cells (planC p ctx K).toArray 62)).alloc (.cells #[.int .i64 9, .int .i64 pos, .int .i64 layer, .int .i64 head, .int .i64 row] 69) := ⟨_, rfl⟩
  rw [← hw1] at hra
  have HW := Lib.hid hw1
  have HC := Lib.hid hra
  clear hw1 hra hs hok hb f1 f2 hpb hat
  go_enter Try.func39, Try.ntmps39
  go_upto_region 1 with fail
  rw [← HW.out]
  go_upto_region 3 with (first | (refine wpList_load_mid rfl 62 (.tmp 2) rfl W.heap.size 0 rfl (planC p ctx K) _ (rangeAt_whole HC.out.pl) Try.underlying62 rfl plan_size ?_; simp only [Act.put, List.setIfInBounds_toArray, List.set_cons_succ, List.set_cons_zero]) | (refine wpList_load_mid rfl 69 (.tmp 3) rfl (W.heap.size + 1) 0 rfl (Stp.Stp.cells ⟨9, pos, layer, head, row⟩) _ (rangeAt_whole HC.out.st) Try.underlying69 rfl step_size ?_; simp only [Act.put, List.setIfInBounds_toArray, List.set_cons_succ, List.set_cons_zero]) | (go_at_call 85; (with_reducible refine Calls.mono HC.out.has ?_); rintro e w2 ⟨rfl, hb2⟩; have HB := Lib.hid hb2; clear hb2))
  have hst2 := (HB.out.block _ (Array.getElem?_eq_some_iff.1 HC.out.st).1).trans HC.out.st
  have hpl2 := (HB.out.block _ (Array.getElem?_eq_some_iff.1 HC.out.pl).1).trans HC.out.pl
  have c0 : w2.cell? ⟨W.heap.size + 1, 0, none⟩ = some (.int .i64 9) := by rw [cell_of_row _ _ 0 _ _ _ hst2]; rfl
  have c1 : w2.cell? ⟨W.heap.size + 1, 1, none⟩ = some (.int .i64 pos) := by rw [cell_of_row _ _ 1 _ _ _ hst2]; rfl
  have c2 : w2.cell? ⟨W.heap.size + 1, 2, none⟩ = some (.int .i64 layer) := by rw [cell_of_row _ _ 2 _ _ _ hst2]; rfl
  have c4 : w2.cell? ⟨W.heap.size + 1, 4, none⟩ = some (.int .i64 row) := by rw [cell_of_row _ _ 4 _ _ _ hst2]; rfl
  have hb12 := HB.out
  have HT := Lib.hid (And.intro hst2 (And.intro hpl2 (below_chain HC.out.below HB.out)))
  clear hst2 hpl2 hb12
  have hix : ∀ w, (Instr.index 163 (.agg #[.int .i64 0, .int .i64 1, .int .i64 2, .int .i64 3, .int .i64 4, .int .i64 5, .int .i64 3, .int .i64 0, .int .i64 0, .int .i64 7, .int .i64 7, .int .i64 6, .int .i64 10, .int .i64 1, .int .i64 2, .int .i64 8, .int .i64 8, .int .i64 9, .int .i64 8, .int .i64 10, .int .i64 1, .int .i64 2, .int .i64 11, .int .i64 0]) (.int .i64 9)).run Try.prog w = .ok (.int .i64 7) w := fun w => index_ints w _ 9 (by decide) rfl
  go_wp2_with fail
  go_ret
  exact ⟨rfl, HT.out.2.2⟩
set_option maxRecDepth 100000 in
set_option maxHeartbeats 4000000 in
theorem writes_10 (W : World) (p : Pln) (ctx K : Int) (h : Okp p ctx K) (at_ : Nat) (hat : at_ < p.places) (pos layer head row : Int) (hs : (⟨10, pos, layer, head, row⟩ : Stp.Stp) ∈ Stp.placeL p at_) :
    Calls Try.prog 39 #[.agg (planC p ctx K).toArray, .agg #[.int .i64 10, .int .i64 pos, .int .i64 layer, .int .i64 head, .int .i64 row]] W (fun e w' => e = .returned (.int .i64 (writesV p.places ⟨10, pos, layer, head, row⟩)) ∧ Below W.heap.size W w') := by
  obtain ⟨hb, f1, f2⟩ := h.facts
  have hpb : p.places ≤ 64 := by unfold Pln.places; omega
  have hok := ok_place hb (by omega) hs
  have hra := rat_of W p ctx K h at_ hat 10 pos layer head row hs hok.pos
  obtain ⟨w1, hw1⟩ : ∃ w1, w1 = (W.alloc (.cells (planC p ctx K).toArray 62)).alloc (.cells #[.int .i64 10, .int .i64 pos, .int .i64 layer, .int .i64 head, .int .i64 row] 69) := ⟨_, rfl⟩
  rw [← hw1] at hra
  have HW := Lib.hid hw1
  have HC := Lib.hid hra
  clear hw1 hra hs hok hb f1 f2 hpb hat
  go_enter Try.func39, Try.ntmps39
  go_upto_region 1 with fail
  rw [← HW.out]
  go_upto_region 3 with (first | (refine wpList_load_mid rfl 62 (.tmp 2) rfl W.heap.size 0 rfl (planC p ctx K) _ (rangeAt_whole HC.out.pl) Try.underlying62 rfl plan_size ?_; simp only [Act.put, List.setIfInBounds_toArray, List.set_cons_succ, List.set_cons_zero]) | (refine wpList_load_mid rfl 69 (.tmp 3) rfl (W.heap.size + 1) 0 rfl (Stp.Stp.cells ⟨10, pos, layer, head, row⟩) _ (rangeAt_whole HC.out.st) Try.underlying69 rfl step_size ?_; simp only [Act.put, List.setIfInBounds_toArray, List.set_cons_succ, List.set_cons_zero]) | (go_at_call 85; (with_reducible refine Calls.mono HC.out.has ?_); rintro e w2 ⟨rfl, hb2⟩; have HB := Lib.hid hb2; clear hb2))
  have hst2 := (HB.out.block _ (Array.getElem?_eq_some_iff.1 HC.out.st).1).trans HC.out.st
  have hpl2 := (HB.out.block _ (Array.getElem?_eq_some_iff.1 HC.out.pl).1).trans HC.out.pl
  have c0 : w2.cell? ⟨W.heap.size + 1, 0, none⟩ = some (.int .i64 10) := by rw [cell_of_row _ _ 0 _ _ _ hst2]; rfl
  have c1 : w2.cell? ⟨W.heap.size + 1, 1, none⟩ = some (.int .i64 pos) := by rw [cell_of_row _ _ 1 _ _ _ hst2]; rfl
  have c2 : w2.cell? ⟨W.heap.size + 1, 2, none⟩ = some (.int .i64 layer) := by rw [cell_of_row _ _ 2 _ _ _ hst2]; rfl
  have c4 : w2.cell? ⟨W.heap.size + 1, 4, none⟩ = some (.int .i64 row) := by rw [cell_of_row _ _ 4 _ _ _ hst2]; rfl
  have hb12 := HB.out
  have HT := Lib.hid (And.intro hst2 (And.intro hpl2 (below_chain HC.out.below HB.out)))
  clear hst2 hpl2 hb12
  have hix : ∀ w, (Instr.index 163 (.agg #[.int .i64 0, .int .i64 1, .int .i64 2, .int .i64 3, .int .i64 4, .int .i64 5, .int .i64 3, .int .i64 0, .int .i64 0, .int .i64 7, .int .i64 7, .int .i64 6, .int .i64 10, .int .i64 1, .int .i64 2, .int .i64 8, .int .i64 8, .int .i64 9, .int .i64 8, .int .i64 10, .int .i64 1, .int .i64 2, .int .i64 11, .int .i64 0]) (.int .i64 10)).run Try.prog w = .ok (.int .i64 7) w := fun w => index_ints w _ 10 (by decide) rfl
  go_wp2_with fail
  go_ret
  exact ⟨rfl, HT.out.2.2⟩
set_option maxRecDepth 100000 in
set_option maxHeartbeats 4000000 in
theorem writes_11 (W : World) (p : Pln) (ctx K : Int) (h : Okp p ctx K) (at_ : Nat) (hat : at_ < p.places) (pos layer head row : Int) (hs : (⟨11, pos, layer, head, row⟩ : Stp.Stp) ∈ Stp.placeL p at_) :
    Calls Try.prog 39 #[.agg (planC p ctx K).toArray, .agg #[.int .i64 11, .int .i64 pos, .int .i64 layer, .int .i64 head, .int .i64 row]] W (fun e w' => e = .returned (.int .i64 (writesV p.places ⟨11, pos, layer, head, row⟩)) ∧ Below W.heap.size W w') := by
  obtain ⟨hb, f1, f2⟩ := h.facts
  have hpb : p.places ≤ 64 := by unfold Pln.places; omega
  have hok := ok_place hb (by omega) hs
  have hra := rat_of W p ctx K h at_ hat 11 pos layer head row hs hok.pos
  obtain ⟨w1, hw1⟩ : ∃ w1, w1 = (W.alloc (.cells (planC p ctx K).toArray 62)).alloc (.cells #[.int .i64 11, .int .i64 pos, .int .i64 layer, .int .i64 head, .int .i64 row] 69) := ⟨_, rfl⟩
  rw [← hw1] at hra
  have HW := Lib.hid hw1
  have HC := Lib.hid hra
  clear hw1 hra hs hok hb f1 f2 hpb hat
  go_enter Try.func39, Try.ntmps39
  go_upto_region 1 with fail
  rw [← HW.out]
  go_upto_region 3 with (first | (refine wpList_load_mid rfl 62 (.tmp 2) rfl W.heap.size 0 rfl (planC p ctx K) _ (rangeAt_whole HC.out.pl) Try.underlying62 rfl plan_size ?_; simp only [Act.put, List.setIfInBounds_toArray, List.set_cons_succ, List.set_cons_zero]) | (refine wpList_load_mid rfl 69 (.tmp 3) rfl (W.heap.size + 1) 0 rfl (Stp.Stp.cells ⟨11, pos, layer, head, row⟩) _ (rangeAt_whole HC.out.st) Try.underlying69 rfl step_size ?_; simp only [Act.put, List.setIfInBounds_toArray, List.set_cons_succ, List.set_cons_zero]) | (go_at_call 85; (with_reducible refine Calls.mono HC.out.has ?_); rintro e w2 ⟨rfl, hb2⟩; have HB := Lib.hid hb2; clear hb2))
  have hst2 := (HB.out.block _ (Array.getElem?_eq_some_iff.1 HC.out.st).1).trans HC.out.st
  have hpl2 := (HB.out.block _ (Array.getElem?_eq_some_iff.1 HC.out.pl).1).trans HC.out.pl
  have c0 : w2.cell? ⟨W.heap.size + 1, 0, none⟩ = some (.int .i64 11) := by rw [cell_of_row _ _ 0 _ _ _ hst2]; rfl
  have c1 : w2.cell? ⟨W.heap.size + 1, 1, none⟩ = some (.int .i64 pos) := by rw [cell_of_row _ _ 1 _ _ _ hst2]; rfl
  have c2 : w2.cell? ⟨W.heap.size + 1, 2, none⟩ = some (.int .i64 layer) := by rw [cell_of_row _ _ 2 _ _ _ hst2]; rfl
  have c4 : w2.cell? ⟨W.heap.size + 1, 4, none⟩ = some (.int .i64 row) := by rw [cell_of_row _ _ 4 _ _ _ hst2]; rfl
  have hb12 := HB.out
  have HT := Lib.hid (And.intro hst2 (And.intro hpl2 (below_chain HC.out.below HB.out)))
  clear hst2 hpl2 hb12
  have hix : ∀ w, (Instr.index 163 (.agg #[.int .i64 0, .int .i64 1, .int .i64 2, .int .i64 3, .int .i64 4, .int .i64 5, .int .i64 3, .int .i64 0, .int .i64 0, .int .i64 7, .int .i64 7, .int .i64 6, .int .i64 10, .int .i64 1, .int .i64 2, .int .i64 8, .int .i64 8, .int .i64 9, .int .i64 8, .int .i64 10, .int .i64 1, .int .i64 2, .int .i64 11, .int .i64 0]) (.int .i64 11)).run Try.prog w = .ok (.int .i64 6) w := fun w => index_ints w _ 11 (by decide) rfl
  go_wp2_with fail
  go_ret
  exact ⟨rfl, HT.out.2.2⟩
set_option maxRecDepth 100000 in
set_option maxHeartbeats 4000000 in
theorem writes_12 (W : World) (p : Pln) (ctx K : Int) (h : Okp p ctx K) (at_ : Nat) (hat : at_ < p.places) (pos layer head row : Int) (hs : (⟨12, pos, layer, head, row⟩ : Stp.Stp) ∈ Stp.placeL p at_) :
    Calls Try.prog 39 #[.agg (planC p ctx K).toArray, .agg #[.int .i64 12, .int .i64 pos, .int .i64 layer, .int .i64 head, .int .i64 row]] W (fun e w' => e = .returned (.int .i64 (writesV p.places ⟨12, pos, layer, head, row⟩)) ∧ Below W.heap.size W w') := by
  obtain ⟨hb, f1, f2⟩ := h.facts
  have hpb : p.places ≤ 64 := by unfold Pln.places; omega
  have hok := ok_place hb (by omega) hs
  have hra := rat_of W p ctx K h at_ hat 12 pos layer head row hs hok.pos
  obtain ⟨w1, hw1⟩ : ∃ w1, w1 = (W.alloc (.cells (planC p ctx K).toArray 62)).alloc (.cells #[.int .i64 12, .int .i64 pos, .int .i64 layer, .int .i64 head, .int .i64 row] 69) := ⟨_, rfl⟩
  rw [← hw1] at hra
  have HW := Lib.hid hw1
  have HC := Lib.hid hra
  clear hw1 hra hs hok hb f1 f2 hpb hat
  go_enter Try.func39, Try.ntmps39
  go_upto_region 1 with fail
  rw [← HW.out]
  go_upto_region 3 with (first | (refine wpList_load_mid rfl 62 (.tmp 2) rfl W.heap.size 0 rfl (planC p ctx K) _ (rangeAt_whole HC.out.pl) Try.underlying62 rfl plan_size ?_; simp only [Act.put, List.setIfInBounds_toArray, List.set_cons_succ, List.set_cons_zero]) | (refine wpList_load_mid rfl 69 (.tmp 3) rfl (W.heap.size + 1) 0 rfl (Stp.Stp.cells ⟨12, pos, layer, head, row⟩) _ (rangeAt_whole HC.out.st) Try.underlying69 rfl step_size ?_; simp only [Act.put, List.setIfInBounds_toArray, List.set_cons_succ, List.set_cons_zero]) | (go_at_call 85; (with_reducible refine Calls.mono HC.out.has ?_); rintro e w2 ⟨rfl, hb2⟩; have HB := Lib.hid hb2; clear hb2))
  have hst2 := (HB.out.block _ (Array.getElem?_eq_some_iff.1 HC.out.st).1).trans HC.out.st
  have hpl2 := (HB.out.block _ (Array.getElem?_eq_some_iff.1 HC.out.pl).1).trans HC.out.pl
  have c0 : w2.cell? ⟨W.heap.size + 1, 0, none⟩ = some (.int .i64 12) := by rw [cell_of_row _ _ 0 _ _ _ hst2]; rfl
  have c1 : w2.cell? ⟨W.heap.size + 1, 1, none⟩ = some (.int .i64 pos) := by rw [cell_of_row _ _ 1 _ _ _ hst2]; rfl
  have c2 : w2.cell? ⟨W.heap.size + 1, 2, none⟩ = some (.int .i64 layer) := by rw [cell_of_row _ _ 2 _ _ _ hst2]; rfl
  have c4 : w2.cell? ⟨W.heap.size + 1, 4, none⟩ = some (.int .i64 row) := by rw [cell_of_row _ _ 4 _ _ _ hst2]; rfl
  have hb12 := HB.out
  have HT := Lib.hid (And.intro hst2 (And.intro hpl2 (below_chain HC.out.below HB.out)))
  clear hst2 hpl2 hb12
  have hix : ∀ w, (Instr.index 163 (.agg #[.int .i64 0, .int .i64 1, .int .i64 2, .int .i64 3, .int .i64 4, .int .i64 5, .int .i64 3, .int .i64 0, .int .i64 0, .int .i64 7, .int .i64 7, .int .i64 6, .int .i64 10, .int .i64 1, .int .i64 2, .int .i64 8, .int .i64 8, .int .i64 9, .int .i64 8, .int .i64 10, .int .i64 1, .int .i64 2, .int .i64 11, .int .i64 0]) (.int .i64 12)).run Try.prog w = .ok (.int .i64 10) w := fun w => index_ints w _ 12 (by decide) rfl
  go_wp2_with fail
  go_ret
  exact ⟨rfl, HT.out.2.2⟩
set_option maxRecDepth 100000 in
set_option maxHeartbeats 4000000 in
theorem writes_13 (W : World) (p : Pln) (ctx K : Int) (h : Okp p ctx K) (at_ : Nat) (hat : at_ < p.places) (pos layer head row : Int) (hs : (⟨13, pos, layer, head, row⟩ : Stp.Stp) ∈ Stp.placeL p at_) :
    Calls Try.prog 39 #[.agg (planC p ctx K).toArray, .agg #[.int .i64 13, .int .i64 pos, .int .i64 layer, .int .i64 head, .int .i64 row]] W (fun e w' => e = .returned (.int .i64 (writesV p.places ⟨13, pos, layer, head, row⟩)) ∧ Below W.heap.size W w') := by
  obtain ⟨hb, f1, f2⟩ := h.facts
  have hpb : p.places ≤ 64 := by unfold Pln.places; omega
  have hok := ok_place hb (by omega) hs
  have hra := rat_of W p ctx K h at_ hat 13 pos layer head row hs hok.pos
  obtain ⟨w1, hw1⟩ : ∃ w1, w1 = (W.alloc (.cells (planC p ctx K).toArray 62)).alloc (.cells #[.int .i64 13, .int .i64 pos, .int .i64 layer, .int .i64 head, .int .i64 row] 69) := ⟨_, rfl⟩
  rw [← hw1] at hra
  have HW := Lib.hid hw1
  have HC := Lib.hid hra
  clear hw1 hra hs hok hb f1 f2 hpb hat
  go_enter Try.func39, Try.ntmps39
  go_upto_region 1 with fail
  rw [← HW.out]
  go_upto_region 3 with (first | (refine wpList_load_mid rfl 62 (.tmp 2) rfl W.heap.size 0 rfl (planC p ctx K) _ (rangeAt_whole HC.out.pl) Try.underlying62 rfl plan_size ?_; simp only [Act.put, List.setIfInBounds_toArray, List.set_cons_succ, List.set_cons_zero]) | (refine wpList_load_mid rfl 69 (.tmp 3) rfl (W.heap.size + 1) 0 rfl (Stp.Stp.cells ⟨13, pos, layer, head, row⟩) _ (rangeAt_whole HC.out.st) Try.underlying69 rfl step_size ?_; simp only [Act.put, List.setIfInBounds_toArray, List.set_cons_succ, List.set_cons_zero]) | (go_at_call 85; (with_reducible refine Calls.mono HC.out.has ?_); rintro e w2 ⟨rfl, hb2⟩; have HB := Lib.hid hb2; clear hb2))
  have hst2 := (HB.out.block _ (Array.getElem?_eq_some_iff.1 HC.out.st).1).trans HC.out.st
  have hpl2 := (HB.out.block _ (Array.getElem?_eq_some_iff.1 HC.out.pl).1).trans HC.out.pl
  have c0 : w2.cell? ⟨W.heap.size + 1, 0, none⟩ = some (.int .i64 13) := by rw [cell_of_row _ _ 0 _ _ _ hst2]; rfl
  have c1 : w2.cell? ⟨W.heap.size + 1, 1, none⟩ = some (.int .i64 pos) := by rw [cell_of_row _ _ 1 _ _ _ hst2]; rfl
  have c2 : w2.cell? ⟨W.heap.size + 1, 2, none⟩ = some (.int .i64 layer) := by rw [cell_of_row _ _ 2 _ _ _ hst2]; rfl
  have c4 : w2.cell? ⟨W.heap.size + 1, 4, none⟩ = some (.int .i64 row) := by rw [cell_of_row _ _ 4 _ _ _ hst2]; rfl
  have hb12 := HB.out
  have HT := Lib.hid (And.intro hst2 (And.intro hpl2 (below_chain HC.out.below HB.out)))
  clear hst2 hpl2 hb12
  have hix : ∀ w, (Instr.index 163 (.agg #[.int .i64 0, .int .i64 1, .int .i64 2, .int .i64 3, .int .i64 4, .int .i64 5, .int .i64 3, .int .i64 0, .int .i64 0, .int .i64 7, .int .i64 7, .int .i64 6, .int .i64 10, .int .i64 1, .int .i64 2, .int .i64 8, .int .i64 8, .int .i64 9, .int .i64 8, .int .i64 10, .int .i64 1, .int .i64 2, .int .i64 11, .int .i64 0]) (.int .i64 13)).run Try.prog w = .ok (.int .i64 1) w := fun w => index_ints w _ 13 (by decide) rfl
  go_wp2_with fail
  go_ret
  exact ⟨rfl, HT.out.2.2⟩
set_option maxRecDepth 100000 in
set_option maxHeartbeats 4000000 in
theorem writes_14 (W : World) (p : Pln) (ctx K : Int) (h : Okp p ctx K) (at_ : Nat) (hat : at_ < p.places) (pos layer head row : Int) (hs : (⟨14, pos, layer, head, row⟩ : Stp.Stp) ∈ Stp.placeL p at_) :
    Calls Try.prog 39 #[.agg (planC p ctx K).toArray, .agg #[.int .i64 14, .int .i64 pos, .int .i64 layer, .int .i64 head, .int .i64 row]] W (fun e w' => e = .returned (.int .i64 (writesV p.places ⟨14, pos, layer, head, row⟩)) ∧ Below W.heap.size W w') := by
  obtain ⟨hb, f1, f2⟩ := h.facts
  have hpb : p.places ≤ 64 := by unfold Pln.places; omega
  have hok := ok_place hb (by omega) hs
  have hra := rat_of W p ctx K h at_ hat 14 pos layer head row hs hok.pos
  obtain ⟨w1, hw1⟩ : ∃ w1, w1 = (W.alloc (.cells (planC p ctx K).toArray 62)).alloc (.cells #[.int .i64 14, .int .i64 pos, .int .i64 layer, .int .i64 head, .int .i64 row] 69) := ⟨_, rfl⟩
  rw [← hw1] at hra
  have HW := Lib.hid hw1
  have HC := Lib.hid hra
  clear hw1 hra hs hok hb f1 f2 hpb hat
  go_enter Try.func39, Try.ntmps39
  go_upto_region 1 with fail
  rw [← HW.out]
  go_upto_region 3 with (first | (refine wpList_load_mid rfl 62 (.tmp 2) rfl W.heap.size 0 rfl (planC p ctx K) _ (rangeAt_whole HC.out.pl) Try.underlying62 rfl plan_size ?_; simp only [Act.put, List.setIfInBounds_toArray, List.set_cons_succ, List.set_cons_zero]) | (refine wpList_load_mid rfl 69 (.tmp 3) rfl (W.heap.size + 1) 0 rfl (Stp.Stp.cells ⟨14, pos, layer, head, row⟩) _ (rangeAt_whole HC.out.st) Try.underlying69 rfl step_size ?_; simp only [Act.put, List.setIfInBounds_toArray, List.set_cons_succ, List.set_cons_zero]) | (go_at_call 85; (with_reducible refine Calls.mono HC.out.has ?_); rintro e w2 ⟨rfl, hb2⟩; have HB := Lib.hid hb2; clear hb2))
  have hst2 := (HB.out.block _ (Array.getElem?_eq_some_iff.1 HC.out.st).1).trans HC.out.st
  have hpl2 := (HB.out.block _ (Array.getElem?_eq_some_iff.1 HC.out.pl).1).trans HC.out.pl
  have c0 : w2.cell? ⟨W.heap.size + 1, 0, none⟩ = some (.int .i64 14) := by rw [cell_of_row _ _ 0 _ _ _ hst2]; rfl
  have c1 : w2.cell? ⟨W.heap.size + 1, 1, none⟩ = some (.int .i64 pos) := by rw [cell_of_row _ _ 1 _ _ _ hst2]; rfl
  have c2 : w2.cell? ⟨W.heap.size + 1, 2, none⟩ = some (.int .i64 layer) := by rw [cell_of_row _ _ 2 _ _ _ hst2]; rfl
  have c4 : w2.cell? ⟨W.heap.size + 1, 4, none⟩ = some (.int .i64 row) := by rw [cell_of_row _ _ 4 _ _ _ hst2]; rfl
  have hb12 := HB.out
  have HT := Lib.hid (And.intro hst2 (And.intro hpl2 (below_chain HC.out.below HB.out)))
  clear hst2 hpl2 hb12
  have hix : ∀ w, (Instr.index 163 (.agg #[.int .i64 0, .int .i64 1, .int .i64 2, .int .i64 3, .int .i64 4, .int .i64 5, .int .i64 3, .int .i64 0, .int .i64 0, .int .i64 7, .int .i64 7, .int .i64 6, .int .i64 10, .int .i64 1, .int .i64 2, .int .i64 8, .int .i64 8, .int .i64 9, .int .i64 8, .int .i64 10, .int .i64 1, .int .i64 2, .int .i64 11, .int .i64 0]) (.int .i64 14)).run Try.prog w = .ok (.int .i64 2) w := fun w => index_ints w _ 14 (by decide) rfl
  go_wp2_with fail
  go_ret
  exact ⟨rfl, HT.out.2.2⟩
set_option maxRecDepth 100000 in
set_option maxHeartbeats 4000000 in
theorem writes_15 (W : World) (p : Pln) (ctx K : Int) (h : Okp p ctx K) (at_ : Nat) (hat : at_ < p.places) (pos layer head row : Int) (hs : (⟨15, pos, layer, head, row⟩ : Stp.Stp) ∈ Stp.placeL p at_) :
    Calls Try.prog 39 #[.agg (planC p ctx K).toArray, .agg #[.int .i64 15, .int .i64 pos, .int .i64 layer, .int .i64 head, .int .i64 row]] W (fun e w' => e = .returned (.int .i64 (writesV p.places ⟨15, pos, layer, head, row⟩)) ∧ Below W.heap.size W w') := by
  obtain ⟨hb, f1, f2⟩ := h.facts
  have hpb : p.places ≤ 64 := by unfold Pln.places; omega
  have hok := ok_place hb (by omega) hs
  have hra := rat_of W p ctx K h at_ hat 15 pos layer head row hs hok.pos
  obtain ⟨w1, hw1⟩ : ∃ w1, w1 = (W.alloc (.cells (planC p ctx K).toArray 62)).alloc (.cells #[.int .i64 15, .int .i64 pos, .int .i64 layer, .int .i64 head, .int .i64 row] 69) := ⟨_, rfl⟩
  rw [← hw1] at hra
  have HW := Lib.hid hw1
  have HC := Lib.hid hra
  clear hw1 hra hs hok hb f1 f2 hpb hat
  go_enter Try.func39, Try.ntmps39
  go_upto_region 1 with fail
  rw [← HW.out]
  go_upto_region 3 with (first | (refine wpList_load_mid rfl 62 (.tmp 2) rfl W.heap.size 0 rfl (planC p ctx K) _ (rangeAt_whole HC.out.pl) Try.underlying62 rfl plan_size ?_; simp only [Act.put, List.setIfInBounds_toArray, List.set_cons_succ, List.set_cons_zero]) | (refine wpList_load_mid rfl 69 (.tmp 3) rfl (W.heap.size + 1) 0 rfl (Stp.Stp.cells ⟨15, pos, layer, head, row⟩) _ (rangeAt_whole HC.out.st) Try.underlying69 rfl step_size ?_; simp only [Act.put, List.setIfInBounds_toArray, List.set_cons_succ, List.set_cons_zero]) | (go_at_call 85; (with_reducible refine Calls.mono HC.out.has ?_); rintro e w2 ⟨rfl, hb2⟩; have HB := Lib.hid hb2; clear hb2))
  have hst2 := (HB.out.block _ (Array.getElem?_eq_some_iff.1 HC.out.st).1).trans HC.out.st
  have hpl2 := (HB.out.block _ (Array.getElem?_eq_some_iff.1 HC.out.pl).1).trans HC.out.pl
  have c0 : w2.cell? ⟨W.heap.size + 1, 0, none⟩ = some (.int .i64 15) := by rw [cell_of_row _ _ 0 _ _ _ hst2]; rfl
  have c1 : w2.cell? ⟨W.heap.size + 1, 1, none⟩ = some (.int .i64 pos) := by rw [cell_of_row _ _ 1 _ _ _ hst2]; rfl
  have c2 : w2.cell? ⟨W.heap.size + 1, 2, none⟩ = some (.int .i64 layer) := by rw [cell_of_row _ _ 2 _ _ _ hst2]; rfl
  have c4 : w2.cell? ⟨W.heap.size + 1, 4, none⟩ = some (.int .i64 row) := by rw [cell_of_row _ _ 4 _ _ _ hst2]; rfl
  have hb12 := HB.out
  have HT := Lib.hid (And.intro hst2 (And.intro hpl2 (below_chain HC.out.below HB.out)))
  clear hst2 hpl2 hb12
  have hix : ∀ w, (Instr.index 163 (.agg #[.int .i64 0, .int .i64 1, .int .i64 2, .int .i64 3, .int .i64 4, .int .i64 5, .int .i64 3, .int .i64 0, .int .i64 0, .int .i64 7, .int .i64 7, .int .i64 6, .int .i64 10, .int .i64 1, .int .i64 2, .int .i64 8, .int .i64 8, .int .i64 9, .int .i64 8, .int .i64 10, .int .i64 1, .int .i64 2, .int .i64 11, .int .i64 0]) (.int .i64 15)).run Try.prog w = .ok (.int .i64 8) w := fun w => index_ints w _ 15 (by decide) rfl
  go_wp2_with fail
  go_ret
  exact ⟨rfl, HT.out.2.2⟩
set_option maxRecDepth 100000 in
set_option maxHeartbeats 4000000 in
theorem writes_16 (W : World) (p : Pln) (ctx K : Int) (h : Okp p ctx K) (at_ : Nat) (hat : at_ < p.places) (pos layer head row : Int) (hs : (⟨16, pos, layer, head, row⟩ : Stp.Stp) ∈ Stp.placeL p at_) :
    Calls Try.prog 39 #[.agg (planC p ctx K).toArray, .agg #[.int .i64 16, .int .i64 pos, .int .i64 layer, .int .i64 head, .int .i64 row]] W (fun e w' => e = .returned (.int .i64 (writesV p.places ⟨16, pos, layer, head, row⟩)) ∧ Below W.heap.size W w') := by
  obtain ⟨hb, f1, f2⟩ := h.facts
  have hpb : p.places ≤ 64 := by unfold Pln.places; omega
  have hok := ok_place hb (by omega) hs
  have hra := rat_of W p ctx K h at_ hat 16 pos layer head row hs hok.pos
  obtain ⟨w1, hw1⟩ : ∃ w1, w1 = (W.alloc (.cells (planC p ctx K).toArray 62)).alloc (.cells #[.int .i64 16, .int .i64 pos, .int .i64 layer, .int .i64 head, .int .i64 row] 69) := ⟨_, rfl⟩
  rw [← hw1] at hra
  have HW := Lib.hid hw1
  have HC := Lib.hid hra
  clear hw1 hra hs hok hb f1 f2 hpb hat
  go_enter Try.func39, Try.ntmps39
  go_upto_region 1 with fail
  rw [← HW.out]
  go_upto_region 3 with (first | (refine wpList_load_mid rfl 62 (.tmp 2) rfl W.heap.size 0 rfl (planC p ctx K) _ (rangeAt_whole HC.out.pl) Try.underlying62 rfl plan_size ?_; simp only [Act.put, List.setIfInBounds_toArray, List.set_cons_succ, List.set_cons_zero]) | (refine wpList_load_mid rfl 69 (.tmp 3) rfl (W.heap.size + 1) 0 rfl (Stp.Stp.cells ⟨16, pos, layer, head, row⟩) _ (rangeAt_whole HC.out.st) Try.underlying69 rfl step_size ?_; simp only [Act.put, List.setIfInBounds_toArray, List.set_cons_succ, List.set_cons_zero]) | (go_at_call 85; (with_reducible refine Calls.mono HC.out.has ?_); rintro e w2 ⟨rfl, hb2⟩; have HB := Lib.hid hb2; clear hb2))
  have hst2 := (HB.out.block _ (Array.getElem?_eq_some_iff.1 HC.out.st).1).trans HC.out.st
  have hpl2 := (HB.out.block _ (Array.getElem?_eq_some_iff.1 HC.out.pl).1).trans HC.out.pl
  have c0 : w2.cell? ⟨W.heap.size + 1, 0, none⟩ = some (.int .i64 16) := by rw [cell_of_row _ _ 0 _ _ _ hst2]; rfl
  have c1 : w2.cell? ⟨W.heap.size + 1, 1, none⟩ = some (.int .i64 pos) := by rw [cell_of_row _ _ 1 _ _ _ hst2]; rfl
  have c2 : w2.cell? ⟨W.heap.size + 1, 2, none⟩ = some (.int .i64 layer) := by rw [cell_of_row _ _ 2 _ _ _ hst2]; rfl
  have c4 : w2.cell? ⟨W.heap.size + 1, 4, none⟩ = some (.int .i64 row) := by rw [cell_of_row _ _ 4 _ _ _ hst2]; rfl
  have hb12 := HB.out
  have HT := Lib.hid (And.intro hst2 (And.intro hpl2 (below_chain HC.out.below HB.out)))
  clear hst2 hpl2 hb12
  have hix : ∀ w, (Instr.index 163 (.agg #[.int .i64 0, .int .i64 1, .int .i64 2, .int .i64 3, .int .i64 4, .int .i64 5, .int .i64 3, .int .i64 0, .int .i64 0, .int .i64 7, .int .i64 7, .int .i64 6, .int .i64 10, .int .i64 1, .int .i64 2, .int .i64 8, .int .i64 8, .int .i64 9, .int .i64 8, .int .i64 10, .int .i64 1, .int .i64 2, .int .i64 11, .int .i64 0]) (.int .i64 16)).run Try.prog w = .ok (.int .i64 8) w := fun w => index_ints w _ 16 (by decide) rfl
  go_wp2_with fail
  go_ret
  exact ⟨rfl, HT.out.2.2⟩
set_option maxRecDepth 100000 in
set_option maxHeartbeats 4000000 in
theorem writes_17 (W : World) (p : Pln) (ctx K : Int) (h : Okp p ctx K) (at_ : Nat) (hat : at_ < p.places) (pos layer head row : Int) (hs : (⟨17, pos, layer, head, row⟩ : Stp.Stp) ∈ Stp.placeL p at_) :
    Calls Try.prog 39 #[.agg (planC p ctx K).toArray, .agg #[.int .i64 17, .int .i64 pos, .int .i64 layer, .int .i64 head, .int .i64 row]] W (fun e w' => e = .returned (.int .i64 (writesV p.places ⟨17, pos, layer, head, row⟩)) ∧ Below W.heap.size W w') := by
  obtain ⟨hb, f1, f2⟩ := h.facts
  have hpb : p.places ≤ 64 := by unfold Pln.places; omega
  have hok := ok_place hb (by omega) hs
  have hra := rat_of W p ctx K h at_ hat 17 pos layer head row hs hok.pos
  obtain ⟨w1, hw1⟩ : ∃ w1, w1 = (W.alloc (.cells (planC p ctx K).toArray 62)).alloc (.cells #[.int .i64 17, .int .i64 pos, .int .i64 layer, .int .i64 head, .int .i64 row] 69) := ⟨_, rfl⟩
  rw [← hw1] at hra
  have HW := Lib.hid hw1
  have HC := Lib.hid hra
  clear hw1 hra hs hok hb f1 f2 hpb hat
  go_enter Try.func39, Try.ntmps39
  go_upto_region 1 with fail
  rw [← HW.out]
  go_upto_region 3 with (first | (refine wpList_load_mid rfl 62 (.tmp 2) rfl W.heap.size 0 rfl (planC p ctx K) _ (rangeAt_whole HC.out.pl) Try.underlying62 rfl plan_size ?_; simp only [Act.put, List.setIfInBounds_toArray, List.set_cons_succ, List.set_cons_zero]) | (refine wpList_load_mid rfl 69 (.tmp 3) rfl (W.heap.size + 1) 0 rfl (Stp.Stp.cells ⟨17, pos, layer, head, row⟩) _ (rangeAt_whole HC.out.st) Try.underlying69 rfl step_size ?_; simp only [Act.put, List.setIfInBounds_toArray, List.set_cons_succ, List.set_cons_zero]) | (go_at_call 85; (with_reducible refine Calls.mono HC.out.has ?_); rintro e w2 ⟨rfl, hb2⟩; have HB := Lib.hid hb2; clear hb2))
  have hst2 := (HB.out.block _ (Array.getElem?_eq_some_iff.1 HC.out.st).1).trans HC.out.st
  have hpl2 := (HB.out.block _ (Array.getElem?_eq_some_iff.1 HC.out.pl).1).trans HC.out.pl
  have c0 : w2.cell? ⟨W.heap.size + 1, 0, none⟩ = some (.int .i64 17) := by rw [cell_of_row _ _ 0 _ _ _ hst2]; rfl
  have c1 : w2.cell? ⟨W.heap.size + 1, 1, none⟩ = some (.int .i64 pos) := by rw [cell_of_row _ _ 1 _ _ _ hst2]; rfl
  have c2 : w2.cell? ⟨W.heap.size + 1, 2, none⟩ = some (.int .i64 layer) := by rw [cell_of_row _ _ 2 _ _ _ hst2]; rfl
  have c4 : w2.cell? ⟨W.heap.size + 1, 4, none⟩ = some (.int .i64 row) := by rw [cell_of_row _ _ 4 _ _ _ hst2]; rfl
  have hb12 := HB.out
  have HT := Lib.hid (And.intro hst2 (And.intro hpl2 (below_chain HC.out.below HB.out)))
  clear hst2 hpl2 hb12
  have hix : ∀ w, (Instr.index 163 (.agg #[.int .i64 0, .int .i64 1, .int .i64 2, .int .i64 3, .int .i64 4, .int .i64 5, .int .i64 3, .int .i64 0, .int .i64 0, .int .i64 7, .int .i64 7, .int .i64 6, .int .i64 10, .int .i64 1, .int .i64 2, .int .i64 8, .int .i64 8, .int .i64 9, .int .i64 8, .int .i64 10, .int .i64 1, .int .i64 2, .int .i64 11, .int .i64 0]) (.int .i64 17)).run Try.prog w = .ok (.int .i64 9) w := fun w => index_ints w _ 17 (by decide) rfl
  go_wp2_with fail
  go_ret
  exact ⟨rfl, HT.out.2.2⟩
set_option maxRecDepth 100000 in
set_option maxHeartbeats 4000000 in
theorem writes_18 (W : World) (p : Pln) (ctx K : Int) (h : Okp p ctx K) (at_ : Nat) (hat : at_ < p.places) (pos layer head row : Int) (hs : (⟨18, pos, layer, head, row⟩ : Stp.Stp) ∈ Stp.placeL p at_) :
    Calls Try.prog 39 #[.agg (planC p ctx K).toArray, .agg #[.int .i64 18, .int .i64 pos, .int .i64 layer, .int .i64 head, .int .i64 row]] W (fun e w' => e = .returned (.int .i64 (writesV p.places ⟨18, pos, layer, head, row⟩)) ∧ Below W.heap.size W w') := by
  obtain ⟨hb, f1, f2⟩ := h.facts
  have hpb : p.places ≤ 64 := by unfold Pln.places; omega
  have hok := ok_place hb (by omega) hs
  have hra := rat_of W p ctx K h at_ hat 18 pos layer head row hs hok.pos
  obtain ⟨w1, hw1⟩ : ∃ w1, w1 = (W.alloc (.cells (planC p ctx K).toArray 62)).alloc (.cells #[.int .i64 18, .int .i64 pos, .int .i64 layer, .int .i64 head, .int .i64 row] 69) := ⟨_, rfl⟩
  rw [← hw1] at hra
  have HW := Lib.hid hw1
  have HC := Lib.hid hra
  clear hw1 hra hs hok hb f1 f2 hpb hat
  go_enter Try.func39, Try.ntmps39
  go_upto_region 1 with fail
  rw [← HW.out]
  go_upto_region 3 with (first | (refine wpList_load_mid rfl 62 (.tmp 2) rfl W.heap.size 0 rfl (planC p ctx K) _ (rangeAt_whole HC.out.pl) Try.underlying62 rfl plan_size ?_; simp only [Act.put, List.setIfInBounds_toArray, List.set_cons_succ, List.set_cons_zero]) | (refine wpList_load_mid rfl 69 (.tmp 3) rfl (W.heap.size + 1) 0 rfl (Stp.Stp.cells ⟨18, pos, layer, head, row⟩) _ (rangeAt_whole HC.out.st) Try.underlying69 rfl step_size ?_; simp only [Act.put, List.setIfInBounds_toArray, List.set_cons_succ, List.set_cons_zero]) | (go_at_call 85; (with_reducible refine Calls.mono HC.out.has ?_); rintro e w2 ⟨rfl, hb2⟩; have HB := Lib.hid hb2; clear hb2))
  have hst2 := (HB.out.block _ (Array.getElem?_eq_some_iff.1 HC.out.st).1).trans HC.out.st
  have hpl2 := (HB.out.block _ (Array.getElem?_eq_some_iff.1 HC.out.pl).1).trans HC.out.pl
  have c0 : w2.cell? ⟨W.heap.size + 1, 0, none⟩ = some (.int .i64 18) := by rw [cell_of_row _ _ 0 _ _ _ hst2]; rfl
  have c1 : w2.cell? ⟨W.heap.size + 1, 1, none⟩ = some (.int .i64 pos) := by rw [cell_of_row _ _ 1 _ _ _ hst2]; rfl
  have c2 : w2.cell? ⟨W.heap.size + 1, 2, none⟩ = some (.int .i64 layer) := by rw [cell_of_row _ _ 2 _ _ _ hst2]; rfl
  have c4 : w2.cell? ⟨W.heap.size + 1, 4, none⟩ = some (.int .i64 row) := by rw [cell_of_row _ _ 4 _ _ _ hst2]; rfl
  have hb12 := HB.out
  have HT := Lib.hid (And.intro hst2 (And.intro hpl2 (below_chain HC.out.below HB.out)))
  clear hst2 hpl2 hb12
  have hix : ∀ w, (Instr.index 163 (.agg #[.int .i64 0, .int .i64 1, .int .i64 2, .int .i64 3, .int .i64 4, .int .i64 5, .int .i64 3, .int .i64 0, .int .i64 0, .int .i64 7, .int .i64 7, .int .i64 6, .int .i64 10, .int .i64 1, .int .i64 2, .int .i64 8, .int .i64 8, .int .i64 9, .int .i64 8, .int .i64 10, .int .i64 1, .int .i64 2, .int .i64 11, .int .i64 0]) (.int .i64 18)).run Try.prog w = .ok (.int .i64 8) w := fun w => index_ints w _ 18 (by decide) rfl
  go_wp2_with fail
  go_ret
  exact ⟨rfl, HT.out.2.2⟩
set_option maxRecDepth 100000 in
set_option maxHeartbeats 4000000 in
theorem writes_19 (W : World) (p : Pln) (ctx K : Int) (h : Okp p ctx K) (at_ : Nat) (hat : at_ < p.places) (pos layer head row : Int) (hs : (⟨19, pos, layer, head, row⟩ : Stp.Stp) ∈ Stp.placeL p at_) :
    Calls Try.prog 39 #[.agg (planC p ctx K).toArray, .agg #[.int .i64 19, .int .i64 pos, .int .i64 layer, .int .i64 head, .int .i64 row]] W (fun e w' => e = .returned (.int .i64 (writesV p.places ⟨19, pos, layer, head, row⟩)) ∧ Below W.heap.size W w') := by
  obtain ⟨hb, f1, f2⟩ := h.facts
  have hpb : p.places ≤ 64 := by unfold Pln.places; omega
  have hok := ok_place hb (by omega) hs
  have hra := rat_of W p ctx K h at_ hat 19 pos layer head row hs hok.pos
  obtain ⟨w1, hw1⟩ : ∃ w1, w1 = (W.alloc (.cells (planC p ctx K).toArray 62)).alloc (.cells #[.int .i64 19, .int .i64 pos, .int .i64 layer, .int .i64 head, .int .i64 row] 69) := ⟨_, rfl⟩
  rw [← hw1] at hra
  have HW := Lib.hid hw1
  have HC := Lib.hid hra
  clear hw1 hra hs hok hb f1 f2 hpb hat
  go_enter Try.func39, Try.ntmps39
  go_upto_region 1 with fail
  rw [← HW.out]
  go_upto_region 3 with (first | (refine wpList_load_mid rfl 62 (.tmp 2) rfl W.heap.size 0 rfl (planC p ctx K) _ (rangeAt_whole HC.out.pl) Try.underlying62 rfl plan_size ?_; simp only [Act.put, List.setIfInBounds_toArray, List.set_cons_succ, List.set_cons_zero]) | (refine wpList_load_mid rfl 69 (.tmp 3) rfl (W.heap.size + 1) 0 rfl (Stp.Stp.cells ⟨19, pos, layer, head, row⟩) _ (rangeAt_whole HC.out.st) Try.underlying69 rfl step_size ?_; simp only [Act.put, List.setIfInBounds_toArray, List.set_cons_succ, List.set_cons_zero]) | (go_at_call 85; (with_reducible refine Calls.mono HC.out.has ?_); rintro e w2 ⟨rfl, hb2⟩; have HB := Lib.hid hb2; clear hb2))
  have hst2 := (HB.out.block _ (Array.getElem?_eq_some_iff.1 HC.out.st).1).trans HC.out.st
  have hpl2 := (HB.out.block _ (Array.getElem?_eq_some_iff.1 HC.out.pl).1).trans HC.out.pl
  have c0 : w2.cell? ⟨W.heap.size + 1, 0, none⟩ = some (.int .i64 19) := by rw [cell_of_row _ _ 0 _ _ _ hst2]; rfl
  have c1 : w2.cell? ⟨W.heap.size + 1, 1, none⟩ = some (.int .i64 pos) := by rw [cell_of_row _ _ 1 _ _ _ hst2]; rfl
  have c2 : w2.cell? ⟨W.heap.size + 1, 2, none⟩ = some (.int .i64 layer) := by rw [cell_of_row _ _ 2 _ _ _ hst2]; rfl
  have c4 : w2.cell? ⟨W.heap.size + 1, 4, none⟩ = some (.int .i64 row) := by rw [cell_of_row _ _ 4 _ _ _ hst2]; rfl
  have hb12 := HB.out
  have HT := Lib.hid (And.intro hst2 (And.intro hpl2 (below_chain HC.out.below HB.out)))
  clear hst2 hpl2 hb12
  have hix : ∀ w, (Instr.index 163 (.agg #[.int .i64 0, .int .i64 1, .int .i64 2, .int .i64 3, .int .i64 4, .int .i64 5, .int .i64 3, .int .i64 0, .int .i64 0, .int .i64 7, .int .i64 7, .int .i64 6, .int .i64 10, .int .i64 1, .int .i64 2, .int .i64 8, .int .i64 8, .int .i64 9, .int .i64 8, .int .i64 10, .int .i64 1, .int .i64 2, .int .i64 11, .int .i64 0]) (.int .i64 19)).run Try.prog w = .ok (.int .i64 10) w := fun w => index_ints w _ 19 (by decide) rfl
  go_wp2_with fail
  go_ret
  exact ⟨rfl, HT.out.2.2⟩
set_option maxRecDepth 100000 in
set_option maxHeartbeats 4000000 in
theorem writes_20 (W : World) (p : Pln) (ctx K : Int) (h : Okp p ctx K) (at_ : Nat) (hat : at_ < p.places) (pos layer head row : Int) (hs : (⟨20, pos, layer, head, row⟩ : Stp.Stp) ∈ Stp.placeL p at_) :
    Calls Try.prog 39 #[.agg (planC p ctx K).toArray, .agg #[.int .i64 20, .int .i64 pos, .int .i64 layer, .int .i64 head, .int .i64 row]] W (fun e w' => e = .returned (.int .i64 (writesV p.places ⟨20, pos, layer, head, row⟩)) ∧ Below W.heap.size W w') := by
  obtain ⟨hb, f1, f2⟩ := h.facts
  have hpb : p.places ≤ 64 := by unfold Pln.places; omega
  have hok := ok_place hb (by omega) hs
  have hra := rat_of W p ctx K h at_ hat 20 pos layer head row hs hok.pos
  obtain ⟨w1, hw1⟩ : ∃ w1, w1 = (W.alloc (.cells (planC p ctx K).toArray 62)).alloc (.cells #[.int .i64 20, .int .i64 pos, .int .i64 layer, .int .i64 head, .int .i64 row] 69) := ⟨_, rfl⟩
  rw [← hw1] at hra
  have HW := Lib.hid hw1
  have HC := Lib.hid hra
  clear hw1 hra hs hok hb f1 f2 hpb hat
  go_enter Try.func39, Try.ntmps39
  go_upto_region 1 with fail
  rw [← HW.out]
  go_upto_region 3 with (first | (refine wpList_load_mid rfl 62 (.tmp 2) rfl W.heap.size 0 rfl (planC p ctx K) _ (rangeAt_whole HC.out.pl) Try.underlying62 rfl plan_size ?_; simp only [Act.put, List.setIfInBounds_toArray, List.set_cons_succ, List.set_cons_zero]) | (refine wpList_load_mid rfl 69 (.tmp 3) rfl (W.heap.size + 1) 0 rfl (Stp.Stp.cells ⟨20, pos, layer, head, row⟩) _ (rangeAt_whole HC.out.st) Try.underlying69 rfl step_size ?_; simp only [Act.put, List.setIfInBounds_toArray, List.set_cons_succ, List.set_cons_zero]) | (go_at_call 85; (with_reducible refine Calls.mono HC.out.has ?_); rintro e w2 ⟨rfl, hb2⟩; have HB := Lib.hid hb2; clear hb2))
  have hst2 := (HB.out.block _ (Array.getElem?_eq_some_iff.1 HC.out.st).1).trans HC.out.st
  have hpl2 := (HB.out.block _ (Array.getElem?_eq_some_iff.1 HC.out.pl).1).trans HC.out.pl
  have c0 : w2.cell? ⟨W.heap.size + 1, 0, none⟩ = some (.int .i64 20) := by rw [cell_of_row _ _ 0 _ _ _ hst2]; rfl
  have c1 : w2.cell? ⟨W.heap.size + 1, 1, none⟩ = some (.int .i64 pos) := by rw [cell_of_row _ _ 1 _ _ _ hst2]; rfl
  have c2 : w2.cell? ⟨W.heap.size + 1, 2, none⟩ = some (.int .i64 layer) := by rw [cell_of_row _ _ 2 _ _ _ hst2]; rfl
  have c4 : w2.cell? ⟨W.heap.size + 1, 4, none⟩ = some (.int .i64 row) := by rw [cell_of_row _ _ 4 _ _ _ hst2]; rfl
  have hb12 := HB.out
  have HT := Lib.hid (And.intro hst2 (And.intro hpl2 (below_chain HC.out.below HB.out)))
  clear hst2 hpl2 hb12
  have hix : ∀ w, (Instr.index 163 (.agg #[.int .i64 0, .int .i64 1, .int .i64 2, .int .i64 3, .int .i64 4, .int .i64 5, .int .i64 3, .int .i64 0, .int .i64 0, .int .i64 7, .int .i64 7, .int .i64 6, .int .i64 10, .int .i64 1, .int .i64 2, .int .i64 8, .int .i64 8, .int .i64 9, .int .i64 8, .int .i64 10, .int .i64 1, .int .i64 2, .int .i64 11, .int .i64 0]) (.int .i64 20)).run Try.prog w = .ok (.int .i64 1) w := fun w => index_ints w _ 20 (by decide) rfl
  go_wp2_with fail
  go_ret
  exact ⟨rfl, HT.out.2.2⟩
set_option maxRecDepth 100000 in
set_option maxHeartbeats 4000000 in
theorem writes_21 (W : World) (p : Pln) (ctx K : Int) (h : Okp p ctx K) (at_ : Nat) (hat : at_ < p.places) (pos layer head row : Int) (hs : (⟨21, pos, layer, head, row⟩ : Stp.Stp) ∈ Stp.placeL p at_) :
    Calls Try.prog 39 #[.agg (planC p ctx K).toArray, .agg #[.int .i64 21, .int .i64 pos, .int .i64 layer, .int .i64 head, .int .i64 row]] W (fun e w' => e = .returned (.int .i64 (writesV p.places ⟨21, pos, layer, head, row⟩)) ∧ Below W.heap.size W w') := by
  obtain ⟨hb, f1, f2⟩ := h.facts
  have hpb : p.places ≤ 64 := by unfold Pln.places; omega
  have hok := ok_place hb (by omega) hs
  have hra := rat_of W p ctx K h at_ hat 21 pos layer head row hs hok.pos
  obtain ⟨w1, hw1⟩ : ∃ w1, w1 = (W.alloc (.cells (planC p ctx K).toArray 62)).alloc (.cells #[.int .i64 21, .int .i64 pos, .int .i64 layer, .int .i64 head, .int .i64 row] 69) := ⟨_, rfl⟩
  rw [← hw1] at hra
  have HW := Lib.hid hw1
  have HC := Lib.hid hra
  clear hw1 hra hs hok hb f1 f2 hpb hat
  go_enter Try.func39, Try.ntmps39
  go_upto_region 1 with fail
  rw [← HW.out]
  go_upto_region 3 with (first | (refine wpList_load_mid rfl 62 (.tmp 2) rfl W.heap.size 0 rfl (planC p ctx K) _ (rangeAt_whole HC.out.pl) Try.underlying62 rfl plan_size ?_; simp only [Act.put, List.setIfInBounds_toArray, List.set_cons_succ, List.set_cons_zero]) | (refine wpList_load_mid rfl 69 (.tmp 3) rfl (W.heap.size + 1) 0 rfl (Stp.Stp.cells ⟨21, pos, layer, head, row⟩) _ (rangeAt_whole HC.out.st) Try.underlying69 rfl step_size ?_; simp only [Act.put, List.setIfInBounds_toArray, List.set_cons_succ, List.set_cons_zero]) | (go_at_call 85; (with_reducible refine Calls.mono HC.out.has ?_); rintro e w2 ⟨rfl, hb2⟩; have HB := Lib.hid hb2; clear hb2))
  have hst2 := (HB.out.block _ (Array.getElem?_eq_some_iff.1 HC.out.st).1).trans HC.out.st
  have hpl2 := (HB.out.block _ (Array.getElem?_eq_some_iff.1 HC.out.pl).1).trans HC.out.pl
  have c0 : w2.cell? ⟨W.heap.size + 1, 0, none⟩ = some (.int .i64 21) := by rw [cell_of_row _ _ 0 _ _ _ hst2]; rfl
  have c1 : w2.cell? ⟨W.heap.size + 1, 1, none⟩ = some (.int .i64 pos) := by rw [cell_of_row _ _ 1 _ _ _ hst2]; rfl
  have c2 : w2.cell? ⟨W.heap.size + 1, 2, none⟩ = some (.int .i64 layer) := by rw [cell_of_row _ _ 2 _ _ _ hst2]; rfl
  have c4 : w2.cell? ⟨W.heap.size + 1, 4, none⟩ = some (.int .i64 row) := by rw [cell_of_row _ _ 4 _ _ _ hst2]; rfl
  have hb12 := HB.out
  have HT := Lib.hid (And.intro hst2 (And.intro hpl2 (below_chain HC.out.below HB.out)))
  clear hst2 hpl2 hb12
  have hix : ∀ w, (Instr.index 163 (.agg #[.int .i64 0, .int .i64 1, .int .i64 2, .int .i64 3, .int .i64 4, .int .i64 5, .int .i64 3, .int .i64 0, .int .i64 0, .int .i64 7, .int .i64 7, .int .i64 6, .int .i64 10, .int .i64 1, .int .i64 2, .int .i64 8, .int .i64 8, .int .i64 9, .int .i64 8, .int .i64 10, .int .i64 1, .int .i64 2, .int .i64 11, .int .i64 0]) (.int .i64 21)).run Try.prog w = .ok (.int .i64 2) w := fun w => index_ints w _ 21 (by decide) rfl
  go_wp2_with fail
  go_ret
  exact ⟨rfl, HT.out.2.2⟩
set_option maxRecDepth 100000 in
set_option maxHeartbeats 4000000 in
theorem writes_22 (W : World) (p : Pln) (ctx K : Int) (h : Okp p ctx K) (at_ : Nat) (hat : at_ < p.places) (pos layer head row : Int) (hs : (⟨22, pos, layer, head, row⟩ : Stp.Stp) ∈ Stp.placeL p at_) :
    Calls Try.prog 39 #[.agg (planC p ctx K).toArray, .agg #[.int .i64 22, .int .i64 pos, .int .i64 layer, .int .i64 head, .int .i64 row]] W (fun e w' => e = .returned (.int .i64 (writesV p.places ⟨22, pos, layer, head, row⟩)) ∧ Below W.heap.size W w') := by
  obtain ⟨hb, f1, f2⟩ := h.facts
  have hpb : p.places ≤ 64 := by unfold Pln.places; omega
  have hok := ok_place hb (by omega) hs
  have hra := rat_of W p ctx K h at_ hat 22 pos layer head row hs hok.pos
  obtain ⟨w1, hw1⟩ : ∃ w1, w1 = (W.alloc (.cells (planC p ctx K).toArray 62)).alloc (.cells #[.int .i64 22, .int .i64 pos, .int .i64 layer, .int .i64 head, .int .i64 row] 69) := ⟨_, rfl⟩
  rw [← hw1] at hra
  have HW := Lib.hid hw1
  have HC := Lib.hid hra
  clear hw1 hra hs hok hb f1 f2 hpb hat
  go_enter Try.func39, Try.ntmps39
  go_upto_region 1 with fail
  rw [← HW.out]
  go_upto_region 3 with (first | (refine wpList_load_mid rfl 62 (.tmp 2) rfl W.heap.size 0 rfl (planC p ctx K) _ (rangeAt_whole HC.out.pl) Try.underlying62 rfl plan_size ?_; simp only [Act.put, List.setIfInBounds_toArray, List.set_cons_succ, List.set_cons_zero]) | (refine wpList_load_mid rfl 69 (.tmp 3) rfl (W.heap.size + 1) 0 rfl (Stp.Stp.cells ⟨22, pos, layer, head, row⟩) _ (rangeAt_whole HC.out.st) Try.underlying69 rfl step_size ?_; simp only [Act.put, List.setIfInBounds_toArray, List.set_cons_succ, List.set_cons_zero]) | (go_at_call 85; (with_reducible refine Calls.mono HC.out.has ?_); rintro e w2 ⟨rfl, hb2⟩; have HB := Lib.hid hb2; clear hb2))
  have hst2 := (HB.out.block _ (Array.getElem?_eq_some_iff.1 HC.out.st).1).trans HC.out.st
  have hpl2 := (HB.out.block _ (Array.getElem?_eq_some_iff.1 HC.out.pl).1).trans HC.out.pl
  have c0 : w2.cell? ⟨W.heap.size + 1, 0, none⟩ = some (.int .i64 22) := by rw [cell_of_row _ _ 0 _ _ _ hst2]; rfl
  have c1 : w2.cell? ⟨W.heap.size + 1, 1, none⟩ = some (.int .i64 pos) := by rw [cell_of_row _ _ 1 _ _ _ hst2]; rfl
  have c2 : w2.cell? ⟨W.heap.size + 1, 2, none⟩ = some (.int .i64 layer) := by rw [cell_of_row _ _ 2 _ _ _ hst2]; rfl
  have c4 : w2.cell? ⟨W.heap.size + 1, 4, none⟩ = some (.int .i64 row) := by rw [cell_of_row _ _ 4 _ _ _ hst2]; rfl
  have hb12 := HB.out
  have HT := Lib.hid (And.intro hst2 (And.intro hpl2 (below_chain HC.out.below HB.out)))
  clear hst2 hpl2 hb12
  have hix : ∀ w, (Instr.index 163 (.agg #[.int .i64 0, .int .i64 1, .int .i64 2, .int .i64 3, .int .i64 4, .int .i64 5, .int .i64 3, .int .i64 0, .int .i64 0, .int .i64 7, .int .i64 7, .int .i64 6, .int .i64 10, .int .i64 1, .int .i64 2, .int .i64 8, .int .i64 8, .int .i64 9, .int .i64 8, .int .i64 10, .int .i64 1, .int .i64 2, .int .i64 11, .int .i64 0]) (.int .i64 22)).run Try.prog w = .ok (.int .i64 11) w := fun w => index_ints w _ 22 (by decide) rfl
  go_wp2_with fail
  go_ret
  exact ⟨rfl, HT.out.2.2⟩
set_option maxRecDepth 100000 in
set_option maxHeartbeats 4000000 in
theorem writes_23 (W : World) (p : Pln) (ctx K : Int) (h : Okp p ctx K) (at_ : Nat) (hat : at_ < p.places) (pos layer head row : Int) (hs : (⟨23, pos, layer, head, row⟩ : Stp.Stp) ∈ Stp.placeL p at_) :
    Calls Try.prog 39 #[.agg (planC p ctx K).toArray, .agg #[.int .i64 23, .int .i64 pos, .int .i64 layer, .int .i64 head, .int .i64 row]] W (fun e w' => e = .returned (.int .i64 (writesV p.places ⟨23, pos, layer, head, row⟩)) ∧ Below W.heap.size W w') := by
  obtain ⟨hb, f1, f2⟩ := h.facts
  have hpb : p.places ≤ 64 := by unfold Pln.places; omega
  have hok := ok_place hb (by omega) hs
  have hra := rat_of W p ctx K h at_ hat 23 pos layer head row hs hok.pos
  obtain ⟨w1, hw1⟩ : ∃ w1, w1 = (W.alloc (.cells (planC p ctx K).toArray 62)).alloc (.cells #[.int .i64 23, .int .i64 pos, .int .i64 layer, .int .i64 head, .int .i64 row] 69) := ⟨_, rfl⟩
  rw [← hw1] at hra
  have HW := Lib.hid hw1
  have HC := Lib.hid hra
  clear hw1 hra hs hok hb f1 f2 hpb hat
  go_enter Try.func39, Try.ntmps39
  go_upto_region 1 with fail
  rw [← HW.out]
  go_upto_region 3 with (first | (refine wpList_load_mid rfl 62 (.tmp 2) rfl W.heap.size 0 rfl (planC p ctx K) _ (rangeAt_whole HC.out.pl) Try.underlying62 rfl plan_size ?_; simp only [Act.put, List.setIfInBounds_toArray, List.set_cons_succ, List.set_cons_zero]) | (refine wpList_load_mid rfl 69 (.tmp 3) rfl (W.heap.size + 1) 0 rfl (Stp.Stp.cells ⟨23, pos, layer, head, row⟩) _ (rangeAt_whole HC.out.st) Try.underlying69 rfl step_size ?_; simp only [Act.put, List.setIfInBounds_toArray, List.set_cons_succ, List.set_cons_zero]) | (go_at_call 85; (with_reducible refine Calls.mono HC.out.has ?_); rintro e w2 ⟨rfl, hb2⟩; have HB := Lib.hid hb2; clear hb2))
  have hst2 := (HB.out.block _ (Array.getElem?_eq_some_iff.1 HC.out.st).1).trans HC.out.st
  have hpl2 := (HB.out.block _ (Array.getElem?_eq_some_iff.1 HC.out.pl).1).trans HC.out.pl
  have c0 : w2.cell? ⟨W.heap.size + 1, 0, none⟩ = some (.int .i64 23) := by rw [cell_of_row _ _ 0 _ _ _ hst2]; rfl
  have c1 : w2.cell? ⟨W.heap.size + 1, 1, none⟩ = some (.int .i64 pos) := by rw [cell_of_row _ _ 1 _ _ _ hst2]; rfl
  have c2 : w2.cell? ⟨W.heap.size + 1, 2, none⟩ = some (.int .i64 layer) := by rw [cell_of_row _ _ 2 _ _ _ hst2]; rfl
  have c4 : w2.cell? ⟨W.heap.size + 1, 4, none⟩ = some (.int .i64 row) := by rw [cell_of_row _ _ 4 _ _ _ hst2]; rfl
  have hb12 := HB.out
  have HT := Lib.hid (And.intro hst2 (And.intro hpl2 (below_chain HC.out.below HB.out)))
  clear hst2 hpl2 hb12
  have hix : ∀ w, (Instr.index 163 (.agg #[.int .i64 0, .int .i64 1, .int .i64 2, .int .i64 3, .int .i64 4, .int .i64 5, .int .i64 3, .int .i64 0, .int .i64 0, .int .i64 7, .int .i64 7, .int .i64 6, .int .i64 10, .int .i64 1, .int .i64 2, .int .i64 8, .int .i64 8, .int .i64 9, .int .i64 8, .int .i64 10, .int .i64 1, .int .i64 2, .int .i64 11, .int .i64 0]) (.int .i64 23)).run Try.prog w = .ok (.int .i64 0) w := fun w => index_ints w _ 23 (by decide) rfl
  go_wp2_with fail
  go_ret
  exact ⟨rfl, HT.out.2.2⟩
theorem reads_any (W : World) (p : Pln) (ctx K : Int) (h : Okp p ctx K) (at_ : Nat) (hat : at_ < p.places) (s : Stp.Stp) (hs : s ∈ Stp.placeL p at_) :
    Calls Try.prog 37 #[.agg (planC p ctx K).toArray, s.val] W (ReadsPost W (readsL p.places s)) := by
  obtain ⟨hb, f1, f2⟩ := h.facts
  have hpb : p.places ≤ 64 := by unfold Pln.places; omega
  have hok := ok_place hb (by omega) hs
  obtain ⟨k0, pos, layer, head, row⟩ := s
  have hk := hok.kind
  simp only at hk
  rcases (show k0 = 1 ∨ k0 = 2 ∨ k0 = 3 ∨ k0 = 4 ∨ k0 = 5 ∨ k0 = 6 ∨ k0 = 7 ∨ k0 = 8 ∨ k0 = 9 ∨ k0 = 10 ∨ k0 = 11 ∨ k0 = 12 ∨ k0 = 13 ∨ k0 = 14 ∨ k0 = 15 ∨ k0 = 16 ∨ k0 = 17 ∨ k0 = 18 ∨ k0 = 19 ∨ k0 = 20 ∨ k0 = 21 ∨ k0 = 22 ∨ k0 = 23 by omega) with rfl | rfl | rfl | rfl | rfl | rfl | rfl | rfl | rfl | rfl | rfl | rfl | rfl | rfl | rfl | rfl | rfl | rfl | rfl | rfl | rfl | rfl | rfl
  · exact reads_1 W p ctx K h at_ hat pos layer head row hs
  · exact reads_2 W p ctx K h at_ hat pos layer head row hs
  · exact reads_3 W p ctx K h at_ hat pos layer head row hs
  · exact reads_4 W p ctx K h at_ hat pos layer head row hs
  · exact reads_5 W p ctx K h at_ hat pos layer head row hs
  · exact reads_6 W p ctx K h at_ hat pos layer head row hs
  · exact reads_7 W p ctx K h at_ hat pos layer head row hs
  · exact reads_8 W p ctx K h at_ hat pos layer head row hs
  · exact reads_9 W p ctx K h at_ hat pos layer head row hs
  · exact reads_10 W p ctx K h at_ hat pos layer head row hs
  · exact reads_11 W p ctx K h at_ hat pos layer head row hs
  · exact reads_12 W p ctx K h at_ hat pos layer head row hs
  · exact reads_13 W p ctx K h at_ hat pos layer head row hs
  · exact reads_14 W p ctx K h at_ hat pos layer head row hs
  · exact reads_15 W p ctx K h at_ hat pos layer head row hs
  · exact reads_16 W p ctx K h at_ hat pos layer head row hs
  · exact reads_17 W p ctx K h at_ hat pos layer head row hs
  · exact reads_18 W p ctx K h at_ hat pos layer head row hs
  · exact reads_19 W p ctx K h at_ hat pos layer head row hs
  · exact reads_20 W p ctx K h at_ hat pos layer head row hs
  · exact reads_21 W p ctx K h at_ hat pos layer head row hs
  · exact reads_22 W p ctx K h at_ hat pos layer head row hs
  · exact reads_23 W p ctx K h at_ hat pos layer head row hs
theorem writes_any (W : World) (p : Pln) (ctx K : Int) (h : Okp p ctx K) (at_ : Nat) (hat : at_ < p.places) (s : Stp.Stp) (hs : s ∈ Stp.placeL p at_) :
    Calls Try.prog 39 #[.agg (planC p ctx K).toArray, s.val] W (fun e w' => e = .returned (.int .i64 (writesV p.places s)) ∧ Below W.heap.size W w') := by
  obtain ⟨hb, f1, f2⟩ := h.facts
  have hpb : p.places ≤ 64 := by unfold Pln.places; omega
  have hok := ok_place hb (by omega) hs
  obtain ⟨k0, pos, layer, head, row⟩ := s
  have hk := hok.kind
  simp only at hk
  rcases (show k0 = 1 ∨ k0 = 2 ∨ k0 = 3 ∨ k0 = 4 ∨ k0 = 5 ∨ k0 = 6 ∨ k0 = 7 ∨ k0 = 8 ∨ k0 = 9 ∨ k0 = 10 ∨ k0 = 11 ∨ k0 = 12 ∨ k0 = 13 ∨ k0 = 14 ∨ k0 = 15 ∨ k0 = 16 ∨ k0 = 17 ∨ k0 = 18 ∨ k0 = 19 ∨ k0 = 20 ∨ k0 = 21 ∨ k0 = 22 ∨ k0 = 23 by omega) with rfl | rfl | rfl | rfl | rfl | rfl | rfl | rfl | rfl | rfl | rfl | rfl | rfl | rfl | rfl | rfl | rfl | rfl | rfl | rfl | rfl | rfl | rfl
  · exact writes_1 W p ctx K h at_ hat pos layer head row hs
  · exact writes_2 W p ctx K h at_ hat pos layer head row hs
  · exact writes_3 W p ctx K h at_ hat pos layer head row hs
  · exact writes_4 W p ctx K h at_ hat pos layer head row hs
  · exact writes_5 W p ctx K h at_ hat pos layer head row hs
  · exact writes_6 W p ctx K h at_ hat pos layer head row hs
  · exact writes_7 W p ctx K h at_ hat pos layer head row hs
  · exact writes_8 W p ctx K h at_ hat pos layer head row hs
  · exact writes_9 W p ctx K h at_ hat pos layer head row hs
  · exact writes_10 W p ctx K h at_ hat pos layer head row hs
  · exact writes_11 W p ctx K h at_ hat pos layer head row hs
  · exact writes_12 W p ctx K h at_ hat pos layer head row hs
  · exact writes_13 W p ctx K h at_ hat pos layer head row hs
  · exact writes_14 W p ctx K h at_ hat pos layer head row hs
  · exact writes_15 W p ctx K h at_ hat pos layer head row hs
  · exact writes_16 W p ctx K h at_ hat pos layer head row hs
  · exact writes_17 W p ctx K h at_ hat pos layer head row hs
  · exact writes_18 W p ctx K h at_ hat pos layer head row hs
  · exact writes_19 W p ctx K h at_ hat pos layer head row hs
  · exact writes_20 W p ctx K h at_ hat pos layer head row hs
  · exact writes_21 W p ctx K h at_ hat pos layer head row hs
  · exact writes_22 W p ctx K h at_ hat pos layer head row hs
  · exact writes_23 W p ctx K h at_ hat pos layer head row hs
end Go.Proofs.Ytfhaebaegkpkhaa.Tl
