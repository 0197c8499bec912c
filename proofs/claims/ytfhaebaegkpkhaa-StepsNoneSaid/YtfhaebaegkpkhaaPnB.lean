/- Plans that may not be: right, Places, Cells, Size, Step, Steps, Begin of them. -/
import Derived.Test.YtfhaebaegkpkhaaPnA
import Derived.RangeFuncNested
import Derived.RangeFuncBound
import Derived.RangeFuncCalls
import Derived.RangeFuncLeaves
set_option linter.unusedVariables false
set_option linter.unusedSimpArgs false
namespace Go.Proofs.Ytfhaebaegkpkhaa.Pln
open Go.RowKit OwnS Byt Cfg Stp Go.Shelf
attribute [local go_sem ↓] Kit.execOp_call_slot
attribute [local go_sem] Kit.callSlot_func
def planL (c : C6) (P limit K : Int) : List Value := [.int .i64 c.v, .int .i64 c.d, .int .i64 c.h, .int .i64 c.l, .int .i64 c.c, .int .i64 c.x, .int .i64 P, .int .i64 limit, .int .i64 K]
/-- A plan of sizes that may be, which itself may not be. -/
structure NoPlan (c : C6) (P limit K : Int) : Prop where
  sz : c.chk = 0
  ne : planErr c P limit K ≠ 0
theorem right_no (W : World) (c : C6) (P limit K : Int) (h : NoPlan c P limit K) : Calls Try.prog 81 #[.agg (planL c P limit K).toArray] W fun e w' => e = .returned (.bool false) ∧ Below W.heap.size W w' := by
  have hck := fun w => pcheck_any w c P limit K h.sz
  obtain ⟨E, hE⟩ : ∃ E, E = planErr c P limit K := ⟨_, rfl⟩
  have hne := h.ne
  rw [← hE] at hck hne
  have hne' : (E == 0) = false := by simpa using hne
  have HC := Lib.hid hck
  clear hck hE
  unfold planL
  go_enter Try.func81, Try.ntmps81
  go_wp2_with (go_at_call 24; (with_reducible refine Calls.mono (HC.out _) ?_); rintro e w3 ⟨rfl, hb3⟩; have HB := Lib.hid hb3; clear hb3)
  go_ret
  exact ⟨rfl, ((Below.refl _ _).alloc (Nat.le_refl _) _).trans (HB.out.mono (by simp))⟩
theorem places_no (W : World) (c : C6) (P limit K : Int) (h : NoPlan c P limit K) : Calls Try.prog 30 #[.agg (planL c P limit K).toArray] W fun e w' => e = .returned (.int .i64 0) ∧ Below W.heap.size W w' := by
  have hr := fun w => right_no w c P limit K h
  obtain ⟨w2, hw2⟩ : ∃ w2, w2 = W.alloc (.cells (planL c P limit K).toArray 62) := ⟨_, rfl⟩
  have hb2 : Below W.heap.size W w2 := by rw [hw2]; exact (Below.refl _ _).alloc (Nat.le_refl _) _
  have hpl : w2.heap[W.heap.size]? = some (.cells (planL c P limit K).toArray 62 (0, 0)) := by rw [hw2]; exact heap_alloc_new W _
  have HW := Lib.hid hw2
  have HC := Lib.hid (And.intro hb2 (And.intro hr hpl))
  clear hw2 hb2 hr hpl h
  go_enter Try.func30, Try.ntmps30
  go_upto_region 1 with fail
  rw [← HW.out]
  go_wp2_with (first | (refine wpList_load_mid rfl 62 (.tmp 1) rfl W.heap.size 0 rfl (planL c P limit K) _ (rangeAt_whole HC.out.2.2) Try.underlying62 rfl plan_size ?_; simp only [Act.put, List.setIfInBounds_toArray, List.set_cons_succ, List.set_cons_zero]) | (go_at_call 81; (with_reducible refine Calls.mono (HC.out.2.1 w2) ?_); rintro e w3 ⟨rfl, hb3⟩; have HB := Lib.hid hb3; clear hb3))
  go_ret
  exact ⟨rfl, below_chain HC.out.1 HB.out⟩
theorem cells_no (W : World) (c : C6) (P limit K : Int) (h : NoPlan c P limit K) : Calls Try.prog 29 #[.agg (planL c P limit K).toArray] W fun e w' => e = .returned (.int .i64 0) ∧ Below W.heap.size W w' := by
  have hr := fun w => right_no w c P limit K h
  obtain ⟨w2, hw2⟩ : ∃ w2, w2 = W.alloc (.cells (planL c P limit K).toArray 62) := ⟨_, rfl⟩
  have hb2 : Below W.heap.size W w2 := by rw [hw2]; exact (Below.refl _ _).alloc (Nat.le_refl _) _
  have hpl : w2.heap[W.heap.size]? = some (.cells (planL c P limit K).toArray 62 (0, 0)) := by rw [hw2]; exact heap_alloc_new W _
  have HW := Lib.hid hw2
  have HC := Lib.hid (And.intro hb2 (And.intro hr hpl))
  clear hw2 hb2 hr hpl h
  go_enter Try.func29, Try.ntmps29
  go_upto_region 1 with fail
  rw [← HW.out]
  go_wp2_with (first | (refine wpList_load_mid rfl 62 (.tmp 1) rfl W.heap.size 0 rfl (planL c P limit K) _ (rangeAt_whole HC.out.2.2) Try.underlying62 rfl plan_size ?_; simp only [Act.put, List.setIfInBounds_toArray, List.set_cons_succ, List.set_cons_zero]) | (go_at_call 81; (with_reducible refine Calls.mono (HC.out.2.1 w2) ?_); rintro e w3 ⟨rfl, hb3⟩; have HB := Lib.hid hb3; clear hb3))
  go_ret
  exact ⟨rfl, below_chain HC.out.1 HB.out⟩
theorem size_no (W : World) (c : C6) (P limit K : Int) (h : NoPlan c P limit K) : Calls Try.prog 31 #[.agg (planL c P limit K).toArray, .int .i64 0] W fun e w' => e = .returned (.int .i64 0) ∧ Below W.heap.size W w' := by
  have hr := fun w => cells_no w c P limit K h
  unfold planL at hr
  obtain ⟨w2, hw2⟩ : ∃ w2, w2 = W.alloc (.cells (planL c P limit K).toArray 62) := ⟨_, rfl⟩
  have hb2 : Below W.heap.size W w2 := by rw [hw2]; exact (Below.refl _ _).alloc (Nat.le_refl _) _
  have hpl : w2.heap[W.heap.size]? = some (.cells (planL c P limit K).toArray 62 (0, 0)) := by rw [hw2]; exact heap_alloc_new W _
  have d0 : w2.cell? ⟨W.heap.size, 0, none⟩ = some (.int .i64 c.v) := by rw [cell_of_row _ _ 0 _ _ _ hpl]; rfl
  have d1 : w2.cell? ⟨W.heap.size, 1, none⟩ = some (.int .i64 c.d) := by rw [cell_of_row _ _ 1 _ _ _ hpl]; rfl
  have d2 : w2.cell? ⟨W.heap.size, 2, none⟩ = some (.int .i64 c.h) := by rw [cell_of_row _ _ 2 _ _ _ hpl]; rfl
  have d3 : w2.cell? ⟨W.heap.size, 3, none⟩ = some (.int .i64 c.l) := by rw [cell_of_row _ _ 3 _ _ _ hpl]; rfl
  have d4 : w2.cell? ⟨W.heap.size, 4, none⟩ = some (.int .i64 c.c) := by rw [cell_of_row _ _ 4 _ _ _ hpl]; rfl
  have d5 : w2.cell? ⟨W.heap.size, 5, none⟩ = some (.int .i64 c.x) := by rw [cell_of_row _ _ 5 _ _ _ hpl]; rfl
  have d6 : w2.cell? ⟨W.heap.size, 6, none⟩ = some (.int .i64 P) := by rw [cell_of_row _ _ 6 _ _ _ hpl]; rfl
  have d7 : w2.cell? ⟨W.heap.size, 7, none⟩ = some (.int .i64 limit) := by rw [cell_of_row _ _ 7 _ _ _ hpl]; rfl
  have d8 : w2.cell? ⟨W.heap.size, 8, none⟩ = some (.int .i64 K) := by rw [cell_of_row _ _ 8 _ _ _ hpl]; rfl
  have HW := Lib.hid hw2
  have HC := Lib.hid (And.intro hb2 (And.intro hr hpl))
  clear hw2 hb2 hr hpl h
  go_enter Try.func31, Try.ntmps31
  go_upto_region 1 with fail
  rw [← HW.out]
  go_wp2_with ((go_at_call 29; (with_reducible refine Calls.mono (HC.out.2.1 w2) ?_); rintro e w3 ⟨rfl, hb3⟩; have HB := Lib.hid hb3; clear hb3))
  go_ret
  exact ⟨rfl, below_chain HC.out.1 HB.out⟩
theorem begin_no (W : World) (c : C6) (P limit K : Int) (h : NoPlan c P limit K) : Calls Try.prog 28 #[.agg (planL c P limit K).toArray, .slice none 0 0] W fun e w' => e = .returned (.tuple #[.slice none 0 0, .int .i64 (planErr c P limit K)]) ∧ Below W.heap.size W w' := by
  have hr : ∀ w, Calls Try.prog 24 #[.agg (planL c P limit K).toArray] w fun e w' => e = .returned (.int .i64 (planErr c P limit K)) ∧ Below w.heap.size w w' := fun w => pcheck_any w c P limit K h.sz
  obtain ⟨E, hE⟩ : ∃ E, E = planErr c P limit K := ⟨_, rfl⟩
  have hne := h.ne
  rw [← hE] at hne ⊢
  simp only [← hE] at hr
  have hne' : (E == 0) = false := by simpa using hne
  obtain ⟨w2, hw2⟩ : ∃ w2, w2 = W.alloc (.cells (planL c P limit K).toArray 62) := ⟨_, rfl⟩
  have hb2 : Below W.heap.size W w2 := by rw [hw2]; exact (Below.refl _ _).alloc (Nat.le_refl _) _
  have hpl : w2.heap[W.heap.size]? = some (.cells (planL c P limit K).toArray 62 (0, 0)) := by rw [hw2]; exact heap_alloc_new W _
  have HW := Lib.hid hw2
  have HC := Lib.hid (And.intro hb2 (And.intro hr hpl))
  clear hw2 hb2 hr hpl h hE
  go_enter Try.func28, Try.ntmps28
  go_upto_region 1 with fail
  rw [← HW.out]
  go_wp2_with (first | (refine wpList_load_mid rfl 62 (.tmp 2) rfl W.heap.size 0 rfl (planL c P limit K) _ (rangeAt_whole HC.out.2.2) Try.underlying62 rfl plan_size ?_; simp only [Act.put, List.setIfInBounds_toArray, List.set_cons_succ, List.set_cons_zero]) | (go_at_call 24; (with_reducible refine Calls.mono (HC.out.2.1 w2) ?_); rintro e w3 ⟨rfl, hb3⟩; have HB := Lib.hid hb3; clear hb3))
  go_ret2
  exact ⟨rfl, below_chain HC.out.1 HB.out⟩
/-- Steps: a closure over the plan in memory. -/
def StepsAt (W : World) (L : List Value) (e : Ending) (w' : World) : Prop := ∃ q, e = .returned (.func (.func 77) #[] #[.pointer (some ⟨q, 0, none⟩)]) ∧ W.heap.size ≤ q ∧ w'.heap[q]? = some (.cells L.toArray 62 (0, 0)) ∧ Below W.heap.size W w'
theorem steps_any (W : World) (L : List Value) : Calls Try.prog 26 #[.agg L.toArray] W (StepsAt W L) := by
  go_enter Try.func26, Try.ntmps26
  go_wp2_with fail
  go_ret
  exact ⟨_, rfl, Nat.le_refl _, heap_alloc_new W _, (Below.refl _ _).alloc (Nat.le_refl _) _⟩
theorem step0_no (W : World) (c : C6) (P limit K : Int) (h : NoPlan c P limit K) : Calls Try.prog 27 #[.agg (planL c P limit K).toArray, .int .i64 0] W fun e w' => e = .returned (.tuple #[.agg #[.int .i64 0, .int .i64 0, .int .i64 0, .int .i64 0, .int .i64 0], .int .i64 10]) ∧ Below W.heap.size W w' := by
  have hr := fun w => places_no w c P limit K h
  obtain ⟨w2, hw2⟩ : ∃ w2, w2 = (W.alloc (.cells (planL c P limit K).toArray 62)).alloc (.cells #[.int .i64 0, .int .i64 0, .int .i64 0, .int .i64 0, .int .i64 0] 69) := ⟨_, rfl⟩
  have hb2 : Below W.heap.size W w2 := by rw [hw2]; exact ((Below.refl _ _).alloc (Nat.le_refl _) _).alloc (by simp) _
  have hpl : w2.heap[W.heap.size]? = some (.cells (planL c P limit K).toArray 62 (0, 0)) := by rw [hw2, Below.heap_alloc _ _ _ (by simp)]; exact heap_alloc_new W _
  have hst : w2.heap[W.heap.size + 1]? = some (.cells [Value.int .i64 0, .int .i64 0, .int .i64 0, .int .i64 0, .int .i64 0].toArray 69 (0, 0)) := by
    rw [hw2]
    have := heap_alloc_new (W.alloc (.cells (planL c P limit K).toArray 62)) (.cells #[.int .i64 0, .int .i64 0, .int .i64 0, .int .i64 0, .int .i64 0] 69)
    simpa using this
  have hs2 : w2.heap.size = W.heap.size + 2 := by rw [hw2]; simp
  have HW := Lib.hid hw2
  have HC := Lib.hid (And.intro hb2 (And.intro hr (And.intro hpl (And.intro hst hs2))))
  clear hw2 hb2 hr hpl h hst hs2
  go_enter Try.func27, Try.ntmps27
  go_upto_region 1 with fail
  rw [← HW.out]
  go_wp2_with (first | (refine wpList_load_mid rfl 62 (.tmp 2) rfl W.heap.size 0 rfl (planL c P limit K) _ (rangeAt_whole HC.out.2.2.1) Try.underlying62 rfl plan_size ?_; simp only [Act.put, List.setIfInBounds_toArray, List.set_cons_succ, List.set_cons_zero]) | (go_at_call 30; (with_reducible refine Calls.mono (HC.out.2.1 w2) ?_); rintro e w3 ⟨rfl, hb3⟩; have HB := Lib.hid hb3; clear hb3))
  go_loopw [13] (fun v13 wr => v13 = .int .i64 0 ∧ Hid (wr = w3)) (fun _ _ => 0)
  case atStart => exact ⟨rfl, Lib.hid rfl⟩
  case round =>
    obtain ⟨rfl, hI⟩ := hrel
    obtain rfl := hI.out
    have hstb := (HB.out.block _ (by have := HC.out.2.2.2.2; omega)).trans HC.out.2.2.2.1
    have e0 : wr.cell? ⟨W.heap.size + 1, 0, none⟩ = some (.int .i64 0) := by rw [cell_of_row _ _ 0 _ _ _ hstb]; rfl
    have e1 : wr.cell? ⟨W.heap.size + 1, 1, none⟩ = some (.int .i64 0) := by rw [cell_of_row _ _ 1 _ _ _ hstb]; rfl
    have e2 : wr.cell? ⟨W.heap.size + 1, 2, none⟩ = some (.int .i64 0) := by rw [cell_of_row _ _ 2 _ _ _ hstb]; rfl
    have e3 : wr.cell? ⟨W.heap.size + 1, 3, none⟩ = some (.int .i64 0) := by rw [cell_of_row _ _ 3 _ _ _ hstb]; rfl
    have e4 : wr.cell? ⟨W.heap.size + 1, 4, none⟩ = some (.int .i64 0) := by rw [cell_of_row _ _ 4 _ _ _ hstb]; rfl
    have f0 := frozen_of_row wr (W.heap.size + 1) 0 _ _ hstb
    have f1 := frozen_of_row wr (W.heap.size + 1) 1 _ _ hstb
    have f2 := frozen_of_row wr (W.heap.size + 1) 2 _ _ hstb
    have f3 := frozen_of_row wr (W.heap.size + 1) 3 _ _ hstb
    have f4 := frozen_of_row wr (W.heap.size + 1) 4 _ _ hstb
    have HE := Lib.hid hstb
    clear hstb hI
    have hres : ∀ w, (((((wr.setCell ⟨W.heap.size + 1, 0, none⟩ (.int .i64 0)).setCell ⟨W.heap.size + 1, 1, none⟩ (.int .i64 0)).setCell ⟨W.heap.size + 1, 2, none⟩ (.int .i64 0)).setCell ⟨W.heap.size + 1, 3, none⟩ (.int .i64 0)).setCell ⟨W.heap.size + 1, 4, none⟩ (.int .i64 0)) = w → Below W.heap.size W w := fun w e => by
      subst e
      exact ((((((below_chain HC.out.1 HB.out).setCell (p := ⟨W.heap.size + 1, 0, none⟩) (by simp) _).setCell (p := ⟨W.heap.size + 1, 1, none⟩) (by simp) _).setCell (p := ⟨W.heap.size + 1, 2, none⟩) (by simp) _).setCell (p := ⟨W.heap.size + 1, 3, none⟩) (by simp) _).setCell (p := ⟨W.heap.size + 1, 4, none⟩) (by simp) _)
    have HR := Lib.hid hres
    clear hres
    go_wp2_with fail
    refine bodyPost_ret (v := .tuple #[.agg #[.int .i64 0, .int .i64 0, .int .i64 0, .int .i64 0, .int .i64 0], .int .i64 10]) (by simp [results, Try.f27, go_sem, e0, e1, e2, e3, e4]) rfl ⟨rfl, HR.out _ rfl⟩
/-- No step. -/
theorem steps1_no (W : World) (c : C6) (P limit K : Int) (h : NoPlan c P limit K) (yv : Value) (q : Nat) (hq : W.heap[q]? = some (.cells (planL c P limit K).toArray 62 (0, 0))) : Calls Try.prog 77 #[yv, .pointer (some ⟨q, 0, none⟩)] W fun e w' => (∃ v, e = .returned v) ∧ Below W.heap.size W w' := by
  have hr := fun w => places_no w c P limit K h
  have HC := Lib.hid (And.intro hr hq)
  clear hr hq h
  go_enter Try.func77, Try.ntmps77
  go_wp2_with (first | (refine wpList_load_mid rfl 62 (.tmp 1) rfl q 0 rfl (planL c P limit K) _ (rangeAt_whole HC.out.2) Try.underlying62 rfl plan_size ?_; simp only [Act.put, List.setIfInBounds_toArray, List.set_cons_succ, List.set_cons_zero]) | (go_at_call 30; (with_reducible refine Calls.mono (HC.out.1 _) ?_); rintro e w3 ⟨rfl, hb3⟩; have HB := Lib.hid hb3; clear hb3))
  go_loopw [8] (fun v8 wr => v8 = .int .i64 0 ∧ Hid (wr = w3)) (fun _ _ => 0)
  case atStart => exact ⟨rfl, Lib.hid rfl⟩
  case round =>
    obtain ⟨rfl, hI⟩ := hrel
    obtain rfl := hI.out
    clear hI
    go_wp2_with fail
    go_end0
    exact ⟨⟨_, rfl⟩, HB.out⟩
end Go.Proofs.Ytfhaebaegkpkhaa.Pln
