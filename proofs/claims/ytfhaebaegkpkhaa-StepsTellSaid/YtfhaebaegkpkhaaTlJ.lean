/- steps.Plan.Cells, Size; cupelref12.Plan.Size. · steps.Plan.Step; cupellaw12.Plain, Of. · steps.Plan.Steps: all steps, in order, as a sequence. -/
import Derived.Test.YtfhaebaegkpkhaaTlB
import Derived.Test.YtfhaebaegkpkhaaPnC
import Derived.Test.YtfhaebaegkpkhaaSeq
set_option linter.unusedVariables false
set_option linter.unusedSimpArgs false
namespace Go.Proofs.Ytfhaebaegkpkhaa.Tl
open Go.RowKit OwnS Byt Cfg Stp Pln QTail RevL Rf12 Ten
attribute [local go_sem ↓] Kit.execOp_call_slot
attribute [local go_sem] Kit.callSlot_func
/-- How many cells there are. -/
def cellsN (p : Pln) : Nat := 12 + 2 * p.layers * p.places
theorem cellsN_bound {p : Pln} (hl : p.layers ≤ 4) (hp : p.places ≤ 64) : cellsN p ≤ 524 := by
  unfold cellsN
  have : 2 * p.layers * p.places ≤ 8 * 64 := Nat.mul_le_mul (by omega) hp
  omega
theorem cellsN_int (p : Pln) : 12 + 2 * (p.layers : Int) * (p.places : Int) = (cellsN p : Int) := by unfold cellsN; push_cast; rfl
/-- How many numbers a cell has. -/
def sizeV (p : Pln) (cell : Int) : Int :=
  if cell < 0 ∨ (cellsN p : Int) ≤ cell then 0 else if cell = 0 then 1 + (p.prompt : Int) + (p.limit : Int) else if cell = 7 then (p.places : Int) else if cell = 8 ∨ cell = 9 then (p.hidden : Int) else if cell = 11 then (p.vocab : Int) else (p.dim : Int)
theorem plan_cells {w : World} {g : Nat} {p : Pln} {ctx K : Int} (h : w.heap[g]? = some (.cells (planC p ctx K).toArray 62 (0, 0))) :
    w.cell? ⟨g, 0, none⟩ = some (.int .i64 (p.vocab : Int)) ∧ w.cell? ⟨g, 1, none⟩ = some (.int .i64 (p.dim : Int)) ∧ w.cell? ⟨g, 2, none⟩ = some (.int .i64 (p.heads : Int)) ∧ w.cell? ⟨g, 3, none⟩ = some (.int .i64 (p.layers : Int)) ∧ w.cell? ⟨g, 4, none⟩ = some (.int .i64 ctx) ∧ w.cell? ⟨g, 5, none⟩ = some (.int .i64 (p.hidden : Int)) ∧ w.cell? ⟨g, 6, none⟩ = some (.int .i64 (p.prompt : Int)) ∧ w.cell? ⟨g, 7, none⟩ = some (.int .i64 (p.limit : Int)) ∧ w.cell? ⟨g, 8, none⟩ = some (.int .i64 K) := by
  refine ⟨?_, ?_, ?_, ?_, ?_, ?_, ?_, ?_, ?_⟩ <;> (rw [cell_of_row _ _ _ _ _ _ h]; rfl)
theorem ref_cells {w : World} {g : Nat} {p : Pln} (h : w.heap[g]? = some (.cells (refC p).toArray 84 (0, 0))) :
    w.cell? ⟨g, 0, none⟩ = some (.int .i64 (p.dim : Int)) ∧ w.cell? ⟨g, 1, none⟩ = some (.int .i64 (p.heads : Int)) ∧ w.cell? ⟨g, 2, none⟩ = some (.int .i64 (p.layers : Int)) ∧ w.cell? ⟨g, 3, none⟩ = some (.int .i64 (p.hidden : Int)) ∧ w.cell? ⟨g, 4, none⟩ = some (.int .i64 (p.vocab : Int)) ∧ w.cell? ⟨g, 5, none⟩ = some (.int .i64 (p.prompt : Int)) ∧ w.cell? ⟨g, 6, none⟩ = some (.int .i64 (p.limit : Int)) := by
  refine ⟨?_, ?_, ?_, ?_, ?_, ?_, ?_⟩ <;> (rw [cell_of_row _ _ _ _ _ _ h]; rfl)
set_option maxRecDepth 100000 in
theorem cells_any (W : World) (p : Pln) (ctx K : Int) (h : Okp p ctx K) : Calls Try.prog 29 #[.agg (planC p ctx K).toArray] W fun e w' => e = .returned (.int .i64 (cellsN p : Int)) ∧ Below W.heap.size W w' := by
  have hr := fun w => right_any w p ctx K h
  have hpp := fun w => places_any w p ctx K h
  obtain ⟨⟨b1, b2, b3, b4, b5⟩, f1, f2⟩ := h.facts
  have hN : p.places ≤ 64 := by unfold Pln.places; omega
  have hc := cellsN_int p
  have hcb := cellsN_bound b4 hN
  obtain ⟨w2, hw2⟩ : ∃ w2, w2 = W.alloc (.cells (planC p ctx K).toArray 62) := ⟨_, rfl⟩
  have hb2 : Below W.heap.size W w2 := by rw [hw2]; exact (Below.refl _ _).alloc (Nat.le_refl _) _
  have hpl : w2.heap[W.heap.size]? = some (.cells (planC p ctx K).toArray 62 (0, 0)) := by rw [hw2]; exact heap_alloc_new W _
  obtain ⟨PL, hPL⟩ : ∃ PL, PL = p.places := ⟨_, rfl⟩
  obtain ⟨C, hC⟩ : ∃ C, C = cellsN p := ⟨_, rfl⟩
  rw [← hPL] at hpp hc
  rw [← hC] at hc hcb ⊢
  obtain ⟨m, hm⟩ : ∃ m : Int, 2 * (p.layers : Int) * (PL : Int) = m := ⟨_, rfl⟩
  rw [hm] at hc
  have m0 : 0 ≤ m := by rw [← hm]; exact Int.mul_nonneg (by omega) (by omega)
  have m1 : m ≤ 512 := by omega
  have l1 : (p.layers : Int) ≤ 4 := by omega
  have HW := Lib.hid hw2
  have HC := Lib.hid (And.intro hb2 (And.intro hr (And.intro hpl (And.intro hpp hc))))
  clear hw2 hb2 hr hpl hpp h f1 f2 b1 b2 b3 b4 b5 hC hPL hc hcb hN
  go_enter Try.func29, Try.ntmps29
  go_upto_region 1 with fail
  rw [← HW.out]
  go_upto_region 3 with (first | (refine wpList_load_mid rfl 62 (.tmp 1) rfl W.heap.size 0 rfl (planC p ctx K) _ (rangeAt_whole HC.out.2.2.1) Try.underlying62 rfl plan_size ?_; simp only [Act.put, List.setIfInBounds_toArray, List.set_cons_succ, List.set_cons_zero]) | (go_at_call 81; (with_reducible refine Calls.mono (HC.out.2.1 w2) ?_); rintro e w3 ⟨rfl, hb3⟩; have HB := Lib.hid hb3; clear hb3))
  have hpl3 := (HB.out.block _ (Array.getElem?_eq_some_iff.1 HC.out.2.2.1).1).trans HC.out.2.2.1
  have hd : Below w3.heap.size w3 w3.drew := ⟨rfl, rfl, rfl, Nat.le_refl _, fun _ _ => rfl⟩
  refine wp_region_plan (fun w' => Below w3.heap.size w3 w') (Plan.ofList [0, 1, 2, 3, 4, 5, 6, 7, 8] .nil) (by kernel_rfl) (by kernel_rfl) (by kernel_rfl) hd ?_
  intro I hNI FF hFF
  have hgs : ∀ j, (FF j).heap[W.heap.size]? = _ := fun j => ((hFF j).block _ (Array.getElem?_eq_some_iff.1 hpl3).1).trans hpl3
  have G1 : ∀ j, (FF j).rangeAt W.heap.size 0 (planC p ctx K) := fun j => rangeAt_whole (hgs j)
  have e3 : ∀ j, (FF j).cell? ⟨W.heap.size, 3, none⟩ = some (.int .i64 (p.layers : Int)) := fun j => (plan_cells (hgs j)).2.2.2.1
  have HG := Lib.hid (And.intro G1 hd)
  clear hFF G1 hgs hd hpl3
  simp only [Plan.ofList, Plan.lay, List.getElem?_cons_succ, List.getElem?_cons_zero]
  iterate 4 (refine plan_take rfl ?_; go_big_quiet_step (fail); refine wpQuiet_nil ?_)
  refine plan_take rfl ?_
  refine wpQuiet_load_mid rfl 62 (.tmp 1) rfl W.heap.size 0 rfl (planC p ctx K) _ (by rintro _ ⟨j, rfl⟩; exact HG.out.1 j) Try.underlying62 rfl plan_size ?_
  simp only [Act.put, List.setIfInBounds_toArray, List.set_cons_succ, List.set_cons_zero]
  refine wpQuiet_nil ?_
  refine plan_step rfl ?_
  go_wp2_with (go_at_call 30; (with_reducible refine Calls.mono (HC.out.2.2.2.1 _) ?_); rintro e w4 ⟨rfl, hb4⟩; have H4 := Lib.hid (HG.out.2.trans hb4); clear hb4)
  refine ⟨rfl, H4.out, ?_⟩
  iterate 3 (refine plan_take rfl ?_; go_big_quiet_step (fail); refine wpQuiet_nil ?_)
  refine plan_nil ?_
  go_wp2_with fail
  go_ret
  rw [HC.out.2.2.2.2]
  exact ⟨rfl, below_chain HC.out.1 (below_chain HB.out H4.out)⟩
set_option maxRecDepth 100000 in
set_option maxHeartbeats 4000000 in
theorem size_any (W : World) (p : Pln) (ctx K : Int) (h : Okp p ctx K) (cell : Int) : Calls Try.prog 31 #[.agg (planC p ctx K).toArray, .int .i64 cell] W fun e w' => e = .returned (.int .i64 (sizeV p cell)) ∧ Below W.heap.size W w' := by
  have hr := fun w => cells_any w p ctx K h
  have hpp := fun w => places_any w p ctx K h
  obtain ⟨⟨b1, b2, b3, b4, b5⟩, f1, f2⟩ := h.facts
  have hN : p.places ≤ 64 := by unfold Pln.places; omega
  have hcb := cellsN_bound b4 hN
  have hC12 : 12 ≤ cellsN p := by unfold cellsN; omega
  have q1 : (p.prompt : Int) ≤ 64 := by omega
  have q2 : (p.limit : Int) ≤ 64 := by omega
  have q3 : 1 + (p.prompt : Int) + (p.limit : Int) ≤ 200 := by omega
  have q4 : 0 ≤ (p.prompt : Int) := by omega
  have q5 : 0 ≤ (p.limit : Int) := by omega
  obtain ⟨w2, hw2⟩ : ∃ w2, w2 = W.alloc (.cells (planC p ctx K).toArray 62) := ⟨_, rfl⟩
  have hb2 : Below W.heap.size W w2 := by rw [hw2]; exact (Below.refl _ _).alloc (Nat.le_refl _) _
  have hpl : w2.heap[W.heap.size]? = some (.cells (planC p ctx K).toArray 62 (0, 0)) := by rw [hw2]; exact heap_alloc_new W _
  obtain ⟨PL, hPL⟩ : ∃ PL, PL = p.places := ⟨_, rfl⟩
  obtain ⟨S, hS⟩ : ∃ S, S = sizeV p cell := ⟨_, rfl⟩
  rw [← hS]
  unfold sizeV at hS
  obtain ⟨C, hC⟩ : ∃ C, C = cellsN p := ⟨_, rfl⟩
  rw [← hPL] at hpp hS
  rw [← hC] at hcb hr hS hC12
  obtain ⟨c0, c1, c2, c3, c4, c5, c6, c7, c8⟩ := plan_cells hpl
  unfold planC at hr
  have HW := Lib.hid hw2
  have HC := Lib.hid (And.intro hb2 (And.intro hr (And.intro hpl hpp)))
  have hcs : cell < 0 ∨ (0 ≤ cell ∧ (C : Int) ≤ cell) ∨ (cell = 0 ∧ (0 : Int) < (C : Int)) ∨ (cell = 7 ∧ (7 : Int) < (C : Int)) ∨ (cell = 8 ∧ (8 : Int) < (C : Int)) ∨ (cell = 9 ∧ (9 : Int) < (C : Int)) ∨ (cell = 11 ∧ (11 : Int) < (C : Int)) ∨ (0 < cell ∧ ¬ cell = 0 ∧ ¬ cell = 7 ∧ ¬ cell = 8 ∧ ¬ cell = 9 ∧ ¬ cell = 11 ∧ cell < (C : Int)) := by
    by_cases g0 : cell < 0
    · exact .inl g0
    · by_cases g1 : (C : Int) ≤ cell
      · exact .inr (.inl ⟨by omega, g1⟩)
      · by_cases g2 : cell = 0
        · exact .inr (.inr (.inl ⟨g2, by omega⟩))
        · by_cases g3 : cell = 7
          · exact .inr (.inr (.inr (.inl ⟨g3, by omega⟩)))
          · by_cases g4 : cell = 8
            · exact .inr (.inr (.inr (.inr (.inl ⟨g4, by omega⟩))))
            · by_cases g5 : cell = 9
              · exact .inr (.inr (.inr (.inr (.inr (.inl ⟨g5, by omega⟩)))))
              · by_cases g6 : cell = 11
                · exact .inr (.inr (.inr (.inr (.inr (.inr (.inl ⟨g6, by omega⟩))))))
                · exact .inr (.inr (.inr (.inr (.inr (.inr (.inr ⟨by omega, g2, g3, g4, g5, g6, by omega⟩))))))
  clear hw2 hb2 hr hpl hpp h f1 f2 b1 b2 b3 b4 b5 hC hPL hcb hN
  rcases hcs with g0 | ⟨g0, g1⟩ | ⟨rfl, g1⟩ | ⟨rfl, g1⟩ | ⟨rfl, g1⟩ | ⟨rfl, g1⟩ | ⟨rfl, g1⟩ | ⟨g0, g01, g2, g3, g4, g5, g6⟩
  · have hv : S = 0 := by rw [if_pos (.inl g0)] at hS; exact hS
    have HV := Lib.hid hv
    clear hv hS
    go_enter Try.func31, Try.ntmps31
    go_upto_region 1 with fail
    rw [← HW.out]
    go_wp2_with fail
    go_ret
    exact ⟨(by rw [HV.out]; rfl), HC.out.1⟩
  · have hv : S = 0 := by rw [if_pos (.inr g1)] at hS; exact hS
    have HV := Lib.hid hv
    clear hv hS
    go_enter Try.func31, Try.ntmps31
    go_upto_region 1 with fail
    rw [← HW.out]
    go_wp2_with (go_at_call 29; (with_reducible refine Calls.mono (HC.out.2.1 w2) ?_); rintro e w3 ⟨rfl, hb3⟩; have hpl3 := (hb3.block _ (Array.getElem?_eq_some_iff.1 HC.out.2.2.1).1).trans HC.out.2.2.1; obtain ⟨d0, d1, d2, d3, d4, d5, d6, d7, d8⟩ := plan_cells hpl3; have HB := Lib.hid (And.intro hb3 hpl3); clear hb3 hpl3 c0 c1 c2 c3 c4 c5 c6 c7 c8)
    go_ret
    exact ⟨(by rw [HV.out]; rfl), below_chain HC.out.1 HB.out.1⟩
  · have hv : S = 1 + (p.prompt : Int) + (p.limit : Int) := by rw [if_neg (by omega), if_pos rfl] at hS; exact hS
    have HV := Lib.hid hv
    clear hv hS
    go_enter Try.func31, Try.ntmps31
    go_upto_region 1 with fail
    rw [← HW.out]
    go_wp2_with (go_at_call 29; (with_reducible refine Calls.mono (HC.out.2.1 w2) ?_); rintro e w3 ⟨rfl, hb3⟩; have hpl3 := (hb3.block _ (Array.getElem?_eq_some_iff.1 HC.out.2.2.1).1).trans HC.out.2.2.1; obtain ⟨d0, d1, d2, d3, d4, d5, d6, d7, d8⟩ := plan_cells hpl3; have HB := Lib.hid (And.intro hb3 hpl3); clear hb3 hpl3 c0 c1 c2 c3 c4 c5 c6 c7 c8)
    go_ret
    exact ⟨(by rw [HV.out]; rfl), below_chain HC.out.1 HB.out.1⟩
  · have hv : S = (PL : Int) := by rw [if_neg (by omega), if_neg (by omega), if_pos rfl] at hS; exact hS
    have HV := Lib.hid hv
    clear hv hS
    go_enter Try.func31, Try.ntmps31
    go_upto_region 1 with fail
    rw [← HW.out]
    go_wp2_with (first | (go_at_call 29; (with_reducible refine Calls.mono (HC.out.2.1 w2) ?_); rintro e w3 ⟨rfl, hb3⟩; have hpl3 := (hb3.block _ (Array.getElem?_eq_some_iff.1 HC.out.2.2.1).1).trans HC.out.2.2.1; obtain ⟨d0, d1, d2, d3, d4, d5, d6, d7, d8⟩ := plan_cells hpl3; have HB := Lib.hid (And.intro hb3 hpl3); clear hb3 hpl3 c0 c1 c2 c3 c4 c5 c6 c7 c8) | (refine wpList_load_mid rfl 62 (.tmp 2) rfl W.heap.size 0 rfl (planC p ctx K) _ (rangeAt_whole HB.out.2) Try.underlying62 rfl plan_size ?_; simp only [Act.put, List.setIfInBounds_toArray, List.set_cons_succ, List.set_cons_zero]) | (go_at_call 30; (with_reducible refine Calls.mono (HC.out.2.2.2 w3) ?_); rintro e w4 ⟨rfl, hb4⟩; have H4 := Lib.hid hb4; clear hb4))
    go_ret
    exact ⟨(by rw [HV.out]; rfl), below_chain HC.out.1 (below_chain HB.out.1 H4.out)⟩
  · have hv : S = (p.hidden : Int) := by rw [if_neg (by omega), if_neg (by omega), if_neg (by omega), if_pos (.inl rfl)] at hS; exact hS
    have HV := Lib.hid hv
    clear hv hS
    go_enter Try.func31, Try.ntmps31
    go_upto_region 1 with fail
    rw [← HW.out]
    go_wp2_with (go_at_call 29; (with_reducible refine Calls.mono (HC.out.2.1 w2) ?_); rintro e w3 ⟨rfl, hb3⟩; have hpl3 := (hb3.block _ (Array.getElem?_eq_some_iff.1 HC.out.2.2.1).1).trans HC.out.2.2.1; obtain ⟨d0, d1, d2, d3, d4, d5, d6, d7, d8⟩ := plan_cells hpl3; have HB := Lib.hid (And.intro hb3 hpl3); clear hb3 hpl3 c0 c1 c2 c3 c4 c5 c6 c7 c8)
    go_ret
    exact ⟨(by rw [HV.out]; rfl), below_chain HC.out.1 HB.out.1⟩
  · have hv : S = (p.hidden : Int) := by rw [if_neg (by omega), if_neg (by omega), if_neg (by omega), if_pos (.inr rfl)] at hS; exact hS
    have HV := Lib.hid hv
    clear hv hS
    go_enter Try.func31, Try.ntmps31
    go_upto_region 1 with fail
    rw [← HW.out]
    go_wp2_with (go_at_call 29; (with_reducible refine Calls.mono (HC.out.2.1 w2) ?_); rintro e w3 ⟨rfl, hb3⟩; have hpl3 := (hb3.block _ (Array.getElem?_eq_some_iff.1 HC.out.2.2.1).1).trans HC.out.2.2.1; obtain ⟨d0, d1, d2, d3, d4, d5, d6, d7, d8⟩ := plan_cells hpl3; have HB := Lib.hid (And.intro hb3 hpl3); clear hb3 hpl3 c0 c1 c2 c3 c4 c5 c6 c7 c8)
    go_ret
    exact ⟨(by rw [HV.out]; rfl), below_chain HC.out.1 HB.out.1⟩
  · have hv : S = (p.vocab : Int) := by rw [if_neg (by omega), if_neg (by omega), if_neg (by omega), if_neg (by omega), if_pos rfl] at hS; exact hS
    have HV := Lib.hid hv
    clear hv hS
    go_enter Try.func31, Try.ntmps31
    go_upto_region 1 with fail
    rw [← HW.out]
    go_wp2_with (go_at_call 29; (with_reducible refine Calls.mono (HC.out.2.1 w2) ?_); rintro e w3 ⟨rfl, hb3⟩; have hpl3 := (hb3.block _ (Array.getElem?_eq_some_iff.1 HC.out.2.2.1).1).trans HC.out.2.2.1; obtain ⟨d0, d1, d2, d3, d4, d5, d6, d7, d8⟩ := plan_cells hpl3; have HB := Lib.hid (And.intro hb3 hpl3); clear hb3 hpl3 c0 c1 c2 c3 c4 c5 c6 c7 c8)
    go_ret
    exact ⟨(by rw [HV.out]; rfl), below_chain HC.out.1 HB.out.1⟩
  · have hv : S = (p.dim : Int) := by rw [if_neg (by omega), if_neg g01, if_neg g2, if_neg (by omega), if_neg g5] at hS; exact hS
    have HV := Lib.hid hv
    clear hv hS
    clear hC12
    go_enter Try.func31, Try.ntmps31
    go_upto_region 1 with fail
    rw [← HW.out]
    go_wp2_with (go_at_call 29; (with_reducible refine Calls.mono (HC.out.2.1 w2) ?_); rintro e w3 ⟨rfl, hb3⟩; have hpl3 := (hb3.block _ (Array.getElem?_eq_some_iff.1 HC.out.2.2.1).1).trans HC.out.2.2.1; obtain ⟨d0, d1, d2, d3, d4, d5, d6, d7, d8⟩ := plan_cells hpl3; have HB := Lib.hid (And.intro hb3 hpl3); clear hb3 hpl3 c0 c1 c2 c3 c4 c5 c6 c7 c8)
    go_ret
    exact ⟨(by rw [HV.out]; rfl), below_chain HC.out.1 HB.out.1⟩
set_option maxRecDepth 100000 in
set_option maxHeartbeats 4000000 in
theorem rsize_any (W : World) (p : Pln) (hp : Small p) (cell : Int) : Calls Try.prog 41 #[.agg (refC p).toArray, .int .i64 cell] W fun e w' => e = .returned (.int .i64 (sizeV p cell)) ∧ Below W.heap.size W w' := by
  have hpp := fun w => rplaces_any w p hp
  obtain ⟨b1, b2, b3, b4, b5⟩ := hp.b
  have hN := hp.places.2
  have hs := hp.s
  have hc := cellsN_int p
  have hcb := cellsN_bound b4 hN
  have hC12 : 12 ≤ cellsN p := by unfold cellsN; omega
  have q1 : (p.prompt : Int) ≤ 64 := by omega
  have q2 : (p.limit : Int) ≤ 64 := by omega
  have q3 : 1 + (p.prompt : Int) + (p.limit : Int) ≤ 200 := by omega
  have q4 : 0 ≤ (p.prompt : Int) := by omega
  have q5 : 0 ≤ (p.limit : Int) := by omega
  obtain ⟨w2, hw2⟩ : ∃ w2, w2 = W.alloc (.cells (refC p).toArray 84) := ⟨_, rfl⟩
  have hb2 : Below W.heap.size W w2 := by rw [hw2]; exact (Below.refl _ _).alloc (Nat.le_refl _) _
  have hpl : w2.heap[W.heap.size]? = some (.cells (refC p).toArray 84 (0, 0)) := by rw [hw2]; exact heap_alloc_new W _
  obtain ⟨PL, hPL⟩ : ∃ PL, PL = p.places := ⟨_, rfl⟩
  obtain ⟨S, hS⟩ : ∃ S, S = sizeV p cell := ⟨_, rfl⟩
  rw [← hS]
  unfold sizeV at hS
  obtain ⟨C, hC⟩ : ∃ C, C = cellsN p := ⟨_, rfl⟩
  rw [← hPL] at hpp hS hc
  rw [← hC] at hcb hS hC12 hc
  obtain ⟨m, hm⟩ : ∃ m : Int, 2 * (p.layers : Int) * (PL : Int) = m := ⟨_, rfl⟩
  rw [hm] at hc
  have m0 : 0 ≤ m := by rw [← hm]; exact Int.mul_nonneg (by omega) (by omega)
  have m1 : m ≤ 512 := by omega
  have l1 : (p.layers : Int) ≤ 4 := by omega
  have HW := Lib.hid hw2
  have HC := Lib.hid (And.intro hb2 (And.intro hpl hpp))
  have hcs : cell < 0 ∨ (0 ≤ cell ∧ (C : Int) ≤ cell) ∨ (cell = 0 ∧ (0 : Int) < (C : Int)) ∨ (cell = 7 ∧ (7 : Int) < (C : Int)) ∨ (cell = 8 ∧ (8 : Int) < (C : Int)) ∨ (cell = 9 ∧ (9 : Int) < (C : Int)) ∨ (cell = 11 ∧ (11 : Int) < (C : Int)) ∨ (0 < cell ∧ ¬ cell = 0 ∧ ¬ cell = 7 ∧ ¬ cell = 8 ∧ ¬ cell = 9 ∧ ¬ cell = 11 ∧ cell < (C : Int)) := by
    by_cases g0 : cell < 0
    · exact .inl g0
    · by_cases g1 : (C : Int) ≤ cell
      · exact .inr (.inl ⟨by omega, g1⟩)
      · by_cases g2 : cell = 0
        · exact .inr (.inr (.inl ⟨g2, by omega⟩))
        · by_cases g3 : cell = 7
          · exact .inr (.inr (.inr (.inl ⟨g3, by omega⟩)))
          · by_cases g4 : cell = 8
            · exact .inr (.inr (.inr (.inr (.inl ⟨g4, by omega⟩))))
            · by_cases g5 : cell = 9
              · exact .inr (.inr (.inr (.inr (.inr (.inl ⟨g5, by omega⟩)))))
              · by_cases g6 : cell = 11
                · exact .inr (.inr (.inr (.inr (.inr (.inr (.inl ⟨g6, by omega⟩))))))
                · exact .inr (.inr (.inr (.inr (.inr (.inr (.inr ⟨by omega, g2, g3, g4, g5, g6, by omega⟩))))))
  clear hw2 hb2 hpl hpp hp hs b1 b2 b3 b4 b5 hC hPL hN
  rcases hcs with g0 | ⟨g0, g1⟩ | ⟨rfl, g1⟩ | ⟨rfl, g1⟩ | ⟨rfl, g1⟩ | ⟨rfl, g1⟩ | ⟨rfl, g1⟩ | ⟨g0, g01, g2, g3, g4, g5, g6⟩
  · have hv : S = 0 := by rw [if_pos (.inl g0)] at hS; exact hS
    have HV := Lib.hid hv
    clear hv hS
    clear hc hcb hC12
    go_enter Try.func41, Try.ntmps41
    go_upto_region 1 with fail
    rw [← HW.out]
    have hd : Below w2.heap.size w2 w2.drew := ⟨rfl, rfl, rfl, Nat.le_refl _, fun _ _ => rfl⟩
    refine wp_region_plan (fun w' => Below w2.heap.size w2 w') (Plan.ofList [0, 1, 2, 3, 4, 5, 6, 7, 8, 9, 10, 11, 12] .nil) (by kernel_rfl) (by kernel_rfl) (by kernel_rfl) hd ?_
    intro I hNI FF hFF
    have hgs : ∀ j, (FF j).heap[W.heap.size]? = _ := fun j => ((hFF j).block _ (Array.getElem?_eq_some_iff.1 HC.out.2.1).1).trans HC.out.2.1
    have G1 : ∀ j, (FF j).rangeAt W.heap.size 0 (refC p) := fun j => rangeAt_whole (hgs j)
    have e2 : ∀ j, (FF j).cell? ⟨W.heap.size, 2, none⟩ = some (.int .i64 (p.layers : Int)) := fun j => (ref_cells (hgs j)).2.2.1
    have HG := Lib.hid (And.intro G1 hd)
    clear hFF G1 hgs hd
    simp only [Plan.ofList, Plan.lay, List.getElem?_cons_succ, List.getElem?_cons_zero]
    iterate 8 (refine plan_take rfl ?_; go_big_quiet_step (fail); refine wpQuiet_nil ?_)
    refine plan_step rfl ?_
    go_wp2_with fail
    refine ⟨rfl, HG.out.2, ?_⟩
    iterate 4 (refine plan_take rfl ?_; go_big_quiet_step (fail); refine wpQuiet_nil ?_)
    refine plan_nil ?_
    go_wp2_with fail
    go_ret
    exact ⟨(by rw [HV.out]; rfl), below_chain HC.out.1 HG.out.2⟩
  · have hv : S = 0 := by rw [if_pos (.inr g1)] at hS; exact hS
    have HV := Lib.hid hv
    clear hv hS
    have g7 : 12 + m ≤ cell := by omega
    have g8 : ¬ cell < 0 := by omega
    have g9 : decide (cell < 0) = false := decide_eq_false g8
    clear g1
    clear hc hcb hC12
    go_enter Try.func41, Try.ntmps41
    go_upto_region 1 with fail
    rw [← HW.out]
    have hd : Below w2.heap.size w2 w2.drew := ⟨rfl, rfl, rfl, Nat.le_refl _, fun _ _ => rfl⟩
    refine wp_region_plan (fun w' => Below w2.heap.size w2 w') (Plan.ofList [0, 1, 2, 3, 4, 5, 6, 7, 8, 9, 10, 11, 12] .nil) (by kernel_rfl) (by kernel_rfl) (by kernel_rfl) hd ?_
    intro I hNI FF hFF
    have hgs : ∀ j, (FF j).heap[W.heap.size]? = _ := fun j => ((hFF j).block _ (Array.getElem?_eq_some_iff.1 HC.out.2.1).1).trans HC.out.2.1
    have G1 : ∀ j, (FF j).rangeAt W.heap.size 0 (refC p) := fun j => rangeAt_whole (hgs j)
    have e2 : ∀ j, (FF j).cell? ⟨W.heap.size, 2, none⟩ = some (.int .i64 (p.layers : Int)) := fun j => (ref_cells (hgs j)).2.2.1
    have HG := Lib.hid (And.intro G1 hd)
    clear hFF G1 hgs hd
    simp only [Plan.ofList, Plan.lay, List.getElem?_cons_succ, List.getElem?_cons_zero]
    iterate 7 (refine plan_take rfl ?_; go_big_quiet_step (fail); refine wpQuiet_nil ?_)
    refine plan_take rfl ?_
    refine wpQuiet_load_mid_w (by kernel_rfl) 84 (.tmp 2) rfl W.heap.size 0 rfl (refC p) _ (by rintro _ ⟨j, rfl⟩; exact HG.out.1 j) Try.underlying84 rfl ref_size ?_
    simp only [Act.put, List.setIfInBounds_toArray, List.set_cons_succ, List.set_cons_zero]
    refine wpQuiet_nil ?_
    refine plan_step rfl ?_
    go_wp2_with (go_at_call 35; (with_reducible refine Calls.mono (HC.out.2.2 _) ?_); rintro e w4 ⟨rfl, hb4⟩; have H4 := Lib.hid (HG.out.2.trans hb4); clear hb4)
    refine ⟨rfl, H4.out, ?_⟩
    iterate 4 (refine plan_take rfl ?_; go_big_quiet_step (fail); refine wpQuiet_nil ?_)
    refine plan_nil ?_
    have hpl4 := (H4.out.block _ (Array.getElem?_eq_some_iff.1 HC.out.2.1).1).trans HC.out.2.1
    obtain ⟨d0, d1, d2, d3, d4, d5, d6⟩ := ref_cells hpl4
    have HP4 := Lib.hid hpl4
    clear hpl4
    go_wp2_with fail
    go_ret
    exact ⟨(by rw [HV.out]; rfl), below_chain HC.out.1 H4.out⟩
  · have hv : S = 1 + (p.prompt : Int) + (p.limit : Int) := by rw [if_neg (by omega), if_pos rfl] at hS; exact hS
    have HV := Lib.hid hv
    clear hv hS
    have g7 : (0 : Int) < 12 + m := by omega
    clear hc hcb hC12
    go_enter Try.func41, Try.ntmps41
    go_upto_region 1 with fail
    rw [← HW.out]
    have hd : Below w2.heap.size w2 w2.drew := ⟨rfl, rfl, rfl, Nat.le_refl _, fun _ _ => rfl⟩
    refine wp_region_plan (fun w' => Below w2.heap.size w2 w') (Plan.ofList [0, 1, 2, 3, 4, 5, 6, 7, 8, 9, 10, 11, 12] .nil) (by kernel_rfl) (by kernel_rfl) (by kernel_rfl) hd ?_
    intro I hNI FF hFF
    have hgs : ∀ j, (FF j).heap[W.heap.size]? = _ := fun j => ((hFF j).block _ (Array.getElem?_eq_some_iff.1 HC.out.2.1).1).trans HC.out.2.1
    have G1 : ∀ j, (FF j).rangeAt W.heap.size 0 (refC p) := fun j => rangeAt_whole (hgs j)
    have e2 : ∀ j, (FF j).cell? ⟨W.heap.size, 2, none⟩ = some (.int .i64 (p.layers : Int)) := fun j => (ref_cells (hgs j)).2.2.1
    have HG := Lib.hid (And.intro G1 hd)
    clear hFF G1 hgs hd
    simp only [Plan.ofList, Plan.lay, List.getElem?_cons_succ, List.getElem?_cons_zero]
    iterate 7 (refine plan_take rfl ?_; go_big_quiet_step (fail); refine wpQuiet_nil ?_)
    refine plan_take rfl ?_
    refine wpQuiet_load_mid_w (by kernel_rfl) 84 (.tmp 2) rfl W.heap.size 0 rfl (refC p) _ (by rintro _ ⟨j, rfl⟩; exact HG.out.1 j) Try.underlying84 rfl ref_size ?_
    simp only [Act.put, List.setIfInBounds_toArray, List.set_cons_succ, List.set_cons_zero]
    refine wpQuiet_nil ?_
    refine plan_step rfl ?_
    go_wp2_with (go_at_call 35; (with_reducible refine Calls.mono (HC.out.2.2 _) ?_); rintro e w4 ⟨rfl, hb4⟩; have H4 := Lib.hid (HG.out.2.trans hb4); clear hb4)
    refine ⟨rfl, H4.out, ?_⟩
    iterate 4 (refine plan_take rfl ?_; go_big_quiet_step (fail); refine wpQuiet_nil ?_)
    refine plan_nil ?_
    have hpl4 := (H4.out.block _ (Array.getElem?_eq_some_iff.1 HC.out.2.1).1).trans HC.out.2.1
    obtain ⟨d0, d1, d2, d3, d4, d5, d6⟩ := ref_cells hpl4
    have HP4 := Lib.hid hpl4
    clear hpl4
    go_wp2_with fail
    go_ret
    exact ⟨(by rw [HV.out]; rfl), below_chain HC.out.1 H4.out⟩
  · have hv : S = (PL : Int) := by rw [if_neg (by omega), if_neg (by omega), if_pos rfl] at hS; exact hS
    have HV := Lib.hid hv
    clear hv hS
    have g7 : (7 : Int) < 12 + m := by omega
    clear hc hcb hC12
    go_enter Try.func41, Try.ntmps41
    go_upto_region 1 with fail
    rw [← HW.out]
    have hd : Below w2.heap.size w2 w2.drew := ⟨rfl, rfl, rfl, Nat.le_refl _, fun _ _ => rfl⟩
    refine wp_region_plan (fun w' => Below w2.heap.size w2 w') (Plan.ofList [0, 1, 2, 3, 4, 5, 6, 7, 8, 9, 10, 11, 12] .nil) (by kernel_rfl) (by kernel_rfl) (by kernel_rfl) hd ?_
    intro I hNI FF hFF
    have hgs : ∀ j, (FF j).heap[W.heap.size]? = _ := fun j => ((hFF j).block _ (Array.getElem?_eq_some_iff.1 HC.out.2.1).1).trans HC.out.2.1
    have G1 : ∀ j, (FF j).rangeAt W.heap.size 0 (refC p) := fun j => rangeAt_whole (hgs j)
    have e2 : ∀ j, (FF j).cell? ⟨W.heap.size, 2, none⟩ = some (.int .i64 (p.layers : Int)) := fun j => (ref_cells (hgs j)).2.2.1
    have HG := Lib.hid (And.intro G1 hd)
    clear hFF G1 hgs hd
    simp only [Plan.ofList, Plan.lay, List.getElem?_cons_succ, List.getElem?_cons_zero]
    iterate 7 (refine plan_take rfl ?_; go_big_quiet_step (fail); refine wpQuiet_nil ?_)
    refine plan_take rfl ?_
    refine wpQuiet_load_mid_w (by kernel_rfl) 84 (.tmp 2) rfl W.heap.size 0 rfl (refC p) _ (by rintro _ ⟨j, rfl⟩; exact HG.out.1 j) Try.underlying84 rfl ref_size ?_
    simp only [Act.put, List.setIfInBounds_toArray, List.set_cons_succ, List.set_cons_zero]
    refine wpQuiet_nil ?_
    refine plan_step rfl ?_
    go_wp2_with (go_at_call 35; (with_reducible refine Calls.mono (HC.out.2.2 _) ?_); rintro e w4 ⟨rfl, hb4⟩; have H4 := Lib.hid (HG.out.2.trans hb4); clear hb4)
    refine ⟨rfl, H4.out, ?_⟩
    iterate 4 (refine plan_take rfl ?_; go_big_quiet_step (fail); refine wpQuiet_nil ?_)
    refine plan_nil ?_
    have hpl4 := (H4.out.block _ (Array.getElem?_eq_some_iff.1 HC.out.2.1).1).trans HC.out.2.1
    obtain ⟨d0, d1, d2, d3, d4, d5, d6⟩ := ref_cells hpl4
    have HP4 := Lib.hid hpl4
    clear hpl4
    go_wp2_with (first | (refine wpList_load_mid rfl 84 (.tmp 2) rfl W.heap.size 0 rfl (refC p) _ (rangeAt_whole HP4.out) Try.underlying84 rfl ref_size ?_; simp only [Act.put, List.setIfInBounds_toArray, List.set_cons_succ, List.set_cons_zero]) | (go_at_call 35; (with_reducible refine Calls.mono (HC.out.2.2 w4) ?_); rintro e w5 ⟨rfl, hb5⟩; have H5 := Lib.hid hb5; clear hb5))
    go_ret
    exact ⟨(by rw [HV.out]; rfl), below_chain HC.out.1 (below_chain H4.out H5.out)⟩
  · have hv : S = (p.hidden : Int) := by rw [if_neg (by omega), if_neg (by omega), if_neg (by omega), if_pos (.inl rfl)] at hS; exact hS
    have HV := Lib.hid hv
    clear hv hS
    have g7 : (8 : Int) < 12 + m := by omega
    clear hc hcb hC12
    go_enter Try.func41, Try.ntmps41
    go_upto_region 1 with fail
    rw [← HW.out]
    have hd : Below w2.heap.size w2 w2.drew := ⟨rfl, rfl, rfl, Nat.le_refl _, fun _ _ => rfl⟩
    refine wp_region_plan (fun w' => Below w2.heap.size w2 w') (Plan.ofList [0, 1, 2, 3, 4, 5, 6, 7, 8, 9, 10, 11, 12] .nil) (by kernel_rfl) (by kernel_rfl) (by kernel_rfl) hd ?_
    intro I hNI FF hFF
    have hgs : ∀ j, (FF j).heap[W.heap.size]? = _ := fun j => ((hFF j).block _ (Array.getElem?_eq_some_iff.1 HC.out.2.1).1).trans HC.out.2.1
    have G1 : ∀ j, (FF j).rangeAt W.heap.size 0 (refC p) := fun j => rangeAt_whole (hgs j)
    have e2 : ∀ j, (FF j).cell? ⟨W.heap.size, 2, none⟩ = some (.int .i64 (p.layers : Int)) := fun j => (ref_cells (hgs j)).2.2.1
    have HG := Lib.hid (And.intro G1 hd)
    clear hFF G1 hgs hd
    simp only [Plan.ofList, Plan.lay, List.getElem?_cons_succ, List.getElem?_cons_zero]
    iterate 7 (refine plan_take rfl ?_; go_big_quiet_step (fail); refine wpQuiet_nil ?_)
    refine plan_take rfl ?_
    refine wpQuiet_load_mid_w (by kernel_rfl) 84 (.tmp 2) rfl W.heap.size 0 rfl (refC p) _ (by rintro _ ⟨j, rfl⟩; exact HG.out.1 j) Try.underlying84 rfl ref_size ?_
    simp only [Act.put, List.setIfInBounds_toArray, List.set_cons_succ, List.set_cons_zero]
    refine wpQuiet_nil ?_
    refine plan_step rfl ?_
    go_wp2_with (go_at_call 35; (with_reducible refine Calls.mono (HC.out.2.2 _) ?_); rintro e w4 ⟨rfl, hb4⟩; have H4 := Lib.hid (HG.out.2.trans hb4); clear hb4)
    refine ⟨rfl, H4.out, ?_⟩
    iterate 4 (refine plan_take rfl ?_; go_big_quiet_step (fail); refine wpQuiet_nil ?_)
    refine plan_nil ?_
    have hpl4 := (H4.out.block _ (Array.getElem?_eq_some_iff.1 HC.out.2.1).1).trans HC.out.2.1
    obtain ⟨d0, d1, d2, d3, d4, d5, d6⟩ := ref_cells hpl4
    have HP4 := Lib.hid hpl4
    clear hpl4
    go_wp2_with fail
    go_ret
    exact ⟨(by rw [HV.out]; rfl), below_chain HC.out.1 H4.out⟩
  · have hv : S = (p.hidden : Int) := by rw [if_neg (by omega), if_neg (by omega), if_neg (by omega), if_pos (.inr rfl)] at hS; exact hS
    have HV := Lib.hid hv
    clear hv hS
    have g7 : (9 : Int) < 12 + m := by omega
    clear hc hcb hC12
    go_enter Try.func41, Try.ntmps41
    go_upto_region 1 with fail
    rw [← HW.out]
    have hd : Below w2.heap.size w2 w2.drew := ⟨rfl, rfl, rfl, Nat.le_refl _, fun _ _ => rfl⟩
    refine wp_region_plan (fun w' => Below w2.heap.size w2 w') (Plan.ofList [0, 1, 2, 3, 4, 5, 6, 7, 8, 9, 10, 11, 12] .nil) (by kernel_rfl) (by kernel_rfl) (by kernel_rfl) hd ?_
    intro I hNI FF hFF
    have hgs : ∀ j, (FF j).heap[W.heap.size]? = _ := fun j => ((hFF j).block _ (Array.getElem?_eq_some_iff.1 HC.out.2.1).1).trans HC.out.2.1
    have G1 : ∀ j, (FF j).rangeAt W.heap.size 0 (refC p) := fun j => rangeAt_whole (hgs j)
    have e2 : ∀ j, (FF j).cell? ⟨W.heap.size, 2, none⟩ = some (.int .i64 (p.layers : Int)) := fun j => (ref_cells (hgs j)).2.2.1
    have HG := Lib.hid (And.intro G1 hd)
    clear hFF G1 hgs hd
    simp only [Plan.ofList, Plan.lay, List.getElem?_cons_succ, List.getElem?_cons_zero]
    iterate 7 (refine plan_take rfl ?_; go_big_quiet_step (fail); refine wpQuiet_nil ?_)
    refine plan_take rfl ?_
    refine wpQuiet_load_mid_w (by kernel_rfl) 84 (.tmp 2) rfl W.heap.size 0 rfl (refC p) _ (by rintro _ ⟨j, rfl⟩; exact HG.out.1 j) Try.underlying84 rfl ref_size ?_
    simp only [Act.put, List.setIfInBounds_toArray, List.set_cons_succ, List.set_cons_zero]
    refine wpQuiet_nil ?_
    refine plan_step rfl ?_
    go_wp2_with (go_at_call 35; (with_reducible refine Calls.mono (HC.out.2.2 _) ?_); rintro e w4 ⟨rfl, hb4⟩; have H4 := Lib.hid (HG.out.2.trans hb4); clear hb4)
    refine ⟨rfl, H4.out, ?_⟩
    iterate 4 (refine plan_take rfl ?_; go_big_quiet_step (fail); refine wpQuiet_nil ?_)
    refine plan_nil ?_
    have hpl4 := (H4.out.block _ (Array.getElem?_eq_some_iff.1 HC.out.2.1).1).trans HC.out.2.1
    obtain ⟨d0, d1, d2, d3, d4, d5, d6⟩ := ref_cells hpl4
    have HP4 := Lib.hid hpl4
    clear hpl4
    go_wp2_with fail
    go_ret
    exact ⟨(by rw [HV.out]; rfl), below_chain HC.out.1 H4.out⟩
  · have hv : S = (p.vocab : Int) := by rw [if_neg (by omega), if_neg (by omega), if_neg (by omega), if_neg (by omega), if_pos rfl] at hS; exact hS
    have HV := Lib.hid hv
    clear hv hS
    have g7 : (11 : Int) < 12 + m := by omega
    clear hc hcb hC12
    go_enter Try.func41, Try.ntmps41
    go_upto_region 1 with fail
    rw [← HW.out]
    have hd : Below w2.heap.size w2 w2.drew := ⟨rfl, rfl, rfl, Nat.le_refl _, fun _ _ => rfl⟩
    refine wp_region_plan (fun w' => Below w2.heap.size w2 w') (Plan.ofList [0, 1, 2, 3, 4, 5, 6, 7, 8, 9, 10, 11, 12] .nil) (by kernel_rfl) (by kernel_rfl) (by kernel_rfl) hd ?_
    intro I hNI FF hFF
    have hgs : ∀ j, (FF j).heap[W.heap.size]? = _ := fun j => ((hFF j).block _ (Array.getElem?_eq_some_iff.1 HC.out.2.1).1).trans HC.out.2.1
    have G1 : ∀ j, (FF j).rangeAt W.heap.size 0 (refC p) := fun j => rangeAt_whole (hgs j)
    have e2 : ∀ j, (FF j).cell? ⟨W.heap.size, 2, none⟩ = some (.int .i64 (p.layers : Int)) := fun j => (ref_cells (hgs j)).2.2.1
    have HG := Lib.hid (And.intro G1 hd)
    clear hFF G1 hgs hd
    simp only [Plan.ofList, Plan.lay, List.getElem?_cons_succ, List.getElem?_cons_zero]
    iterate 7 (refine plan_take rfl ?_; go_big_quiet_step (fail); refine wpQuiet_nil ?_)
    refine plan_take rfl ?_
    refine wpQuiet_load_mid_w (by kernel_rfl) 84 (.tmp 2) rfl W.heap.size 0 rfl (refC p) _ (by rintro _ ⟨j, rfl⟩; exact HG.out.1 j) Try.underlying84 rfl ref_size ?_
    simp only [Act.put, List.setIfInBounds_toArray, List.set_cons_succ, List.set_cons_zero]
    refine wpQuiet_nil ?_
    refine plan_step rfl ?_
    go_wp2_with (go_at_call 35; (with_reducible refine Calls.mono (HC.out.2.2 _) ?_); rintro e w4 ⟨rfl, hb4⟩; have H4 := Lib.hid (HG.out.2.trans hb4); clear hb4)
    refine ⟨rfl, H4.out, ?_⟩
    iterate 4 (refine plan_take rfl ?_; go_big_quiet_step (fail); refine wpQuiet_nil ?_)
    refine plan_nil ?_
    have hpl4 := (H4.out.block _ (Array.getElem?_eq_some_iff.1 HC.out.2.1).1).trans HC.out.2.1
    obtain ⟨d0, d1, d2, d3, d4, d5, d6⟩ := ref_cells hpl4
    have HP4 := Lib.hid hpl4
    clear hpl4
    go_wp2_with fail
    go_ret
    exact ⟨(by rw [HV.out]; rfl), below_chain HC.out.1 H4.out⟩
  · have hv : S = (p.dim : Int) := by rw [if_neg (by omega), if_neg g01, if_neg g2, if_neg (by omega), if_neg g5] at hS; exact hS
    have HV := Lib.hid hv
    clear hv hS
    have g7 : cell < 12 + m := by omega
    have g8 : ¬ cell < 0 := by omega
    have g9 : decide (cell < 0) = false := decide_eq_false g8
    clear g6
    clear hc hcb hC12
    go_enter Try.func41, Try.ntmps41
    go_upto_region 1 with fail
    rw [← HW.out]
    have hd : Below w2.heap.size w2 w2.drew := ⟨rfl, rfl, rfl, Nat.le_refl _, fun _ _ => rfl⟩
    refine wp_region_plan (fun w' => Below w2.heap.size w2 w') (Plan.ofList [0, 1, 2, 3, 4, 5, 6, 7, 8, 9, 10, 11, 12] .nil) (by kernel_rfl) (by kernel_rfl) (by kernel_rfl) hd ?_
    intro I hNI FF hFF
    have hgs : ∀ j, (FF j).heap[W.heap.size]? = _ := fun j => ((hFF j).block _ (Array.getElem?_eq_some_iff.1 HC.out.2.1).1).trans HC.out.2.1
    have G1 : ∀ j, (FF j).rangeAt W.heap.size 0 (refC p) := fun j => rangeAt_whole (hgs j)
    have e2 : ∀ j, (FF j).cell? ⟨W.heap.size, 2, none⟩ = some (.int .i64 (p.layers : Int)) := fun j => (ref_cells (hgs j)).2.2.1
    have HG := Lib.hid (And.intro G1 hd)
    clear hFF G1 hgs hd
    simp only [Plan.ofList, Plan.lay, List.getElem?_cons_succ, List.getElem?_cons_zero]
    iterate 7 (refine plan_take rfl ?_; go_big_quiet_step (fail); refine wpQuiet_nil ?_)
    refine plan_take rfl ?_
    refine wpQuiet_load_mid_w (by kernel_rfl) 84 (.tmp 2) rfl W.heap.size 0 rfl (refC p) _ (by rintro _ ⟨j, rfl⟩; exact HG.out.1 j) Try.underlying84 rfl ref_size ?_
    simp only [Act.put, List.setIfInBounds_toArray, List.set_cons_succ, List.set_cons_zero]
    refine wpQuiet_nil ?_
    refine plan_step rfl ?_
    go_wp2_with (go_at_call 35; (with_reducible refine Calls.mono (HC.out.2.2 _) ?_); rintro e w4 ⟨rfl, hb4⟩; have H4 := Lib.hid (HG.out.2.trans hb4); clear hb4)
    refine ⟨rfl, H4.out, ?_⟩
    iterate 4 (refine plan_take rfl ?_; go_big_quiet_step (fail); refine wpQuiet_nil ?_)
    refine plan_nil ?_
    have hpl4 := (H4.out.block _ (Array.getElem?_eq_some_iff.1 HC.out.2.1).1).trans HC.out.2.1
    obtain ⟨d0, d1, d2, d3, d4, d5, d6⟩ := ref_cells hpl4
    have HP4 := Lib.hid hpl4
    clear hpl4
    go_wp2_with fail
    go_ret
    exact ⟨(by rw [HV.out]; rfl), below_chain HC.out.1 H4.out⟩
end Go.Proofs.Ytfhaebaegkpkhaa.Tl

set_option linter.unusedVariables false
set_option linter.unusedSimpArgs false
namespace Go.Proofs.Ytfhaebaegkpkhaa.Tl
open Go.RowKit OwnS Byt Cfg Stp Pln QTail RevL Rf12 Ten
attribute [local go_sem ↓] Kit.execOp_call_slot
attribute [local go_sem] Kit.callSlot_func
theorem below_setRow {w w' : World} {B : Nat} (h : Below B w w') (g : Nat) (cs : Array Value) (hg : B ≤ g) : Below B w (w'.setRow g cs) :=
  ⟨h.os, h.tape, h.output, by simpa using h.size, fun b hb => (setRow_other w' g b cs (by omega)).trans (h.block b hb)⟩
def zeroS : Stp.Stp := ⟨0, 0, 0, 0, 0⟩
/-- The i-th step of a plan, and what is wrong with i. -/
def stepR (p : Pln) (i : Int) : Stp.Stp × Int := if i < 0 then (zeroS, 10) else match (stepsL p)[i.toNat]? with
  | some s => (s, 0)
  | none => (zeroS, 10)
theorem stepsTo_prefix (p : Pln) (n : Nat) : ∀ m, n ≤ m → ∃ t, stepsTo p m = stepsTo p n ++ t
  | 0, h => by obtain rfl : n = 0 := by omega
               exact ⟨[], by simp⟩
  | m + 1, h => by
    by_cases e : n = m + 1
    · subst e; exact ⟨[], by simp⟩
    · obtain ⟨t, ht⟩ := stepsTo_prefix p n m (by omega)
      exact ⟨t ++ Stp.placeL p m, by rw [stepsTo_succ, ht, List.append_assoc]⟩
theorem steps_at {p : Pln} {k j : Nat} {s : Stp.Stp} (hk : k < p.places) (h : (Stp.placeL p k)[j]? = some s) : (stepsL p)[(stepsTo p k).length + j]? = some s := by
  obtain ⟨t, ht⟩ := stepsTo_prefix p (k + 1) p.places (by omega)
  have hj := (List.getElem?_eq_some_iff.1 h).1
  unfold stepsL
  rw [ht, stepsTo_succ, List.getElem?_append_left (by rw [List.length_append]; omega), List.getElem?_append_right (by omega), Nat.add_sub_cancel_left]
  exact h
theorem results_step {w : World} {g : Nat} {s : Stp.Stp} (h : w.heap[g]? = some (.cells s.cells.toArray 69 (0, 0))) :
    w.cell? ⟨g, 0, none⟩ = some (.int .i64 s.kind) ∧ w.cell? ⟨g, 1, none⟩ = some (.int .i64 s.pos) ∧ w.cell? ⟨g, 2, none⟩ = some (.int .i64 s.layer) ∧ w.cell? ⟨g, 3, none⟩ = some (.int .i64 s.head) ∧ w.cell? ⟨g, 4, none⟩ = some (.int .i64 s.row) := by
  refine ⟨?_, ?_, ?_, ?_, ?_⟩ <;> (rw [cell_of_row _ _ _ _ _ _ h]; rfl)
set_option maxRecDepth 100000 in
set_option maxHeartbeats 4000000 in
theorem step_any (W : World) (p : Pln) (ctx K : Int) (h : Okp p ctx K) (i : Int) (hi : i ≤ 1000000) : Calls Try.prog 27 #[.agg (planC p ctx K).toArray, .int .i64 i] W fun e w' => e = .returned (.tuple #[(stepR p i).1.val, .int .i64 (stepR p i).2]) ∧ Below W.heap.size W w' := by
  have hpp := fun w => places_any w p ctx K h
  obtain ⟨f0, f1, f2⟩ := h.facts
  obtain ⟨g1, g2⟩ := h.2.1
  have hpc := fun w (a : Nat) (ha : a ≤ 64) => place_any w p ctx K a (by omega) (by omega) (by omega) (by omega) (by omega) (by omega) (by omega)
  have hN : p.places ≤ 64 := by unfold Pln.places; omega
  obtain ⟨w2, hw2⟩ : ∃ w2, w2 = (W.alloc (.cells (planC p ctx K).toArray 62)).alloc (.cells #[.int .i64 0, .int .i64 0, .int .i64 0, .int .i64 0, .int .i64 0] 69) := ⟨_, rfl⟩
  have hb2 : Below W.heap.size W w2 := by rw [hw2]; exact ((Below.refl _ _).alloc (Nat.le_refl _) _).alloc (by simp) _
  have hpl : w2.heap[W.heap.size]? = some (.cells (planC p ctx K).toArray 62 (0, 0)) := by rw [hw2, Below.heap_alloc _ _ _ (by simp)]; exact heap_alloc_new W _
  have hst : w2.heap[W.heap.size + 1]? = some (.cells zeroS.cells.toArray 69 (0, 0)) := by
    rw [hw2]
    have := heap_alloc_new (W.alloc (.cells (planC p ctx K).toArray 62)) (.cells #[.int .i64 0, .int .i64 0, .int .i64 0, .int .i64 0, .int .i64 0] 69)
    simpa [zeroS, Stp.Stp.cells] using this
  obtain ⟨PL, hPL⟩ : ∃ PL, PL = p.places := ⟨_, rfl⟩
  rw [← hPL] at hpp hN
  have HW := Lib.hid hw2
  have HC := Lib.hid (And.intro hb2 (And.intro hpl (And.intro hst (And.intro hpp (And.intro hpc (And.intro hPL (And.intro f0 hN)))))))
  have hfin0 : ∀ w, Below w2.heap.size w2 w → (w.cell? ⟨W.heap.size + 1, 0, none⟩ = some (.int .i64 0) ∧ w.cell? ⟨W.heap.size + 1, 1, none⟩ = some (.int .i64 0) ∧ w.cell? ⟨W.heap.size + 1, 2, none⟩ = some (.int .i64 0) ∧ w.cell? ⟨W.heap.size + 1, 3, none⟩ = some (.int .i64 0) ∧ w.cell? ⟨W.heap.size + 1, 4, none⟩ = some (.int .i64 0)) ∧ (w.frozen? ⟨W.heap.size + 1, 0, none⟩ = false ∧ w.frozen? ⟨W.heap.size + 1, 1, none⟩ = false ∧ w.frozen? ⟨W.heap.size + 1, 2, none⟩ = false ∧ w.frozen? ⟨W.heap.size + 1, 3, none⟩ = false ∧ w.frozen? ⟨W.heap.size + 1, 4, none⟩ = false) ∧
      Below W.heap.size W (((((w.setCell ⟨W.heap.size + 1, 0, none⟩ (.int .i64 0)).setCell ⟨W.heap.size + 1, 1, none⟩ (.int .i64 0)).setCell ⟨W.heap.size + 1, 2, none⟩ (.int .i64 0)).setCell ⟨W.heap.size + 1, 3, none⟩ (.int .i64 0)).setCell ⟨W.heap.size + 1, 4, none⟩ (.int .i64 0)) := fun w hb => by
    have hs := (hb.block _ (Array.getElem?_eq_some_iff.1 hst).1).trans hst
    exact ⟨results_step hs, ⟨frozen_of_row _ _ _ _ _ hs, frozen_of_row _ _ _ _ _ hs, frozen_of_row _ _ _ _ _ hs, frozen_of_row _ _ _ _ _ hs, frozen_of_row _ _ _ _ _ hs⟩, ((((((below_chain hb2 hb).setCell (p := ⟨W.heap.size + 1, 0, none⟩) (by simp) _).setCell (p := ⟨W.heap.size + 1, 1, none⟩) (by simp) _).setCell (p := ⟨W.heap.size + 1, 2, none⟩) (by simp) _).setCell (p := ⟨W.heap.size + 1, 3, none⟩) (by simp) _).setCell (p := ⟨W.heap.size + 1, 4, none⟩) (by simp) _)⟩
  have HF := Lib.hid hfin0
  clear hw2 hb2 hpl hst hpp hpc h g1 g2 f0 f1 f2 hPL hfin0
  by_cases hneg : i < 0
  · have hr : stepR p i = (zeroS, 10) := if_pos hneg
    rw [hr]
    clear hr
    obtain ⟨⟨e0, e1, e2, e3, e4⟩, ⟨k0, k1, k2, k3, k4⟩, hbz⟩ := HF.out w2 (Below.refl _ _)
    have HB := Lib.hid hbz
    clear hbz
    go_enter Try.func27, Try.ntmps27
    go_upto_region 1 with fail
    rw [← HW.out]
    go_wp2_with fail
    exact bodyPost_ret (v := .tuple #[.agg #[.int .i64 0, .int .i64 0, .int .i64 0, .int .i64 0, .int .i64 0], .int .i64 10]) (by simp [results, Try.f27, go_sem, e0, e1, e2, e3, e4]) rfl ⟨rfl, HB.out⟩
  · have hi0 : 0 ≤ i := by omega
    obtain ⟨q, rfl⟩ := Int.eq_ofNat_of_zero_le hi0
    have hr : stepR p (q : Int) = match (stepsL p)[q]? with | some s => (s, 0) | none => (zeroS, 10) := by
      unfold stepR
      rw [if_neg hneg, Int.toNat_natCast]
    obtain ⟨R, hR⟩ : ∃ R, R = stepR p (q : Int) := ⟨_, rfl⟩
    rw [← hR] at hr ⊢
    have HR := Lib.hid hr
    clear hr hR
    go_enter Try.func27, Try.ntmps27
    go_upto_region 1 with fail
    rw [← HW.out]
    go_wp2_with (first | (refine wpList_load_mid rfl 62 (.tmp 2) rfl W.heap.size 0 rfl (planC p ctx K) _ (rangeAt_whole HC.out.2.1) Try.underlying62 rfl plan_size ?_; simp only [Act.put, List.setIfInBounds_toArray, List.set_cons_succ, List.set_cons_zero]) | (go_at_call 30; (with_reducible refine Calls.mono (HC.out.2.2.2.1 w2) ?_); rintro e w3 ⟨rfl, hb3⟩; have HB := Lib.hid hb3; clear hb3))
    go_loopw [1, 13] (fun v1 v13 wr => ∃ (k j : Nat), k ≤ PL ∧ v13 = .int .i64 (k : Int) ∧ v1 = .int .i64 (j : Int) ∧ j ≤ 1000000 ∧ Hid (q = (stepsTo p k).length + j ∧ Below w2.heap.size w2 wr)) (fun _ v13 _ => PL - (intOf v13).toNat)
    case atStart => exact ⟨0, q, Nat.zero_le _, rfl, rfl, by omega, Lib.hid ⟨by simp [stepsTo], HB.out⟩⟩
    case round =>
      obtain ⟨k, j, hk, rfl, rfl, hj, hI⟩ := hrel
      by_cases hlt : k < PL
      · have i1 : (k : Int) < (PL : Int) := by omega
        have i2 : (k : Int) ≤ 64 := by have := HC.out.2.2.2.2.2.2.2; omega
        have hple := HC.out.2.2.2.2.1 wr k (by omega)
        obtain ⟨L, hL⟩ : ∃ L, L = Stp.placeL p k := ⟨_, rfl⟩
        rw [← hL] at hple
        unfold SlcPost at hple
        obtain ⟨n, hn⟩ : ∃ n, n = L.length := ⟨_, rfl⟩
        rw [← hn] at hple
        have hnb : n ≤ 700000 := by
          have h1 := stepsTo_le p HC.out.2.2.2.2.2.2.1 (k + 1) (by omega)
          rw [stepsTo_succ, List.length_append, ← hL, ← hn] at h1
          omega
        have HP := Lib.hid (And.intro hple (And.intro hL (And.intro hn (rangeAt_whole ((hI.out.2.block _ (Array.getElem?_eq_some_iff.1 HC.out.2.1).1).trans HC.out.2.1)))))
        clear hple hL hn
        by_cases hjn : j < n
        · have hjL : j < L.length := by have := HP.out.2.2.1; omega
          obtain ⟨s, hs⟩ : ∃ s, L[j]? = some s := ⟨_, List.getElem?_eq_getElem hjL⟩
          have i3 : (j : Int) < (n : Int) := by omega
          have HS := Lib.hid (And.intro hs hjL)
          clear hs hjL
          go_upto_region 8 with (first | (refine wpList_load_mid rfl 62 (.tmp 2) rfl W.heap.size 0 rfl (planC p ctx K) _ HP.out.2.2.2 Try.underlying62 rfl plan_size ?_; simp only [Act.put, List.setIfInBounds_toArray, List.set_cons_succ, List.set_cons_zero]) | (go_at_call 76; (with_reducible refine Calls.mono HP.out.1 ?_); rintro e w4 ⟨A4, c4, rfl, ho4, hb4⟩; have H4 := Lib.hid (And.intro ho4.sees (below_chain hI.out.2 hb4)); clear ho4 hb4))
          obtain ⟨g, o, cap, he, -, -, hra⟩ := H4.out.1.holds (by omega)
          injection he with he1 he2 he3
          subst he1
          have hsk := step_at hra HS.out.2
          rw [(List.getElem?_eq_some_iff.1 HS.out.1).2] at hsk
          have hst4 := (H4.out.2.block _ (Array.getElem?_eq_some_iff.1 HC.out.2.2.1).1).trans HC.out.2.2.1
          have HK := Lib.hid (And.intro hsk hst4)
          clear hsk hst4 hra he2 he3
          go_wp2_with (first | (refine wpList_load_mid rfl 69 (.tmp 25) rfl g (o + j * 5) rfl s.cells _ HK.out.1 Try.underlying69 rfl step_size ?_; simp only [Act.put, List.setIfInBounds_toArray, List.set_cons_succ, List.set_cons_zero]) | (refine wpList_store_row rfl 69 (.tmp 4) (.tmp 26) rfl (W.heap.size + 1) s.cells.toArray rfl rfl 69 zeroS.cells.toArray HK.out.2 step_size rfl (all_oneCell_toArray (cells_one s)) ?_; simp only [Act.put]))
          have hnew := setRow_heap w4 (W.heap.size + 1) zeroS.cells.toArray s.cells.toArray _ _ HK.out.2
          obtain ⟨e0, e1, e2, e3, e4⟩ := results_step hnew
          have hRs : R = (s, 0) := by
            have h1 := HR.out
            have h2 := steps_at (p := p) (k := k) (j := j) (s := s) (by have := HC.out.2.2.2.2.2.1; omega) (by rw [← HP.out.2.1]; exact HS.out.1)
            rw [← hI.out.1] at h2
            rw [h2] at h1
            exact h1
          rw [hRs]
          exact bodyPost_ret (v := .tuple #[s.val, .int .i64 0]) (by unfold Stp.Stp.val; simp [results, Try.f27, go_sem, e0, e1, e2, e3, e4]) rfl ⟨rfl, below_setRow (below_chain HC.out.1 H4.out.2) _ _ (by omega)⟩
        · have i3 : (n : Int) ≤ (j : Int) := by omega
          have i4 : (j : Int) ≤ 1000000 := by omega
          go_wp2_with (first | (refine wpList_load_mid rfl 62 (.tmp 2) rfl W.heap.size 0 rfl (planC p ctx K) _ HP.out.2.2.2 Try.underlying62 rfl plan_size ?_; simp only [Act.put, List.setIfInBounds_toArray, List.set_cons_succ, List.set_cons_zero]) | (go_at_call 76; (with_reducible refine Calls.mono HP.out.1 ?_); rintro e w4 ⟨A4, c4, rfl, ho4, hb4⟩; have H4 := Lib.hid (below_chain hI.out.2 hb4); clear ho4 hb4))
          go_roundw
          case rel =>
            refine ⟨k + 1, j - n, by omega, by go_num, by go_num, by omega, Lib.hid ⟨?_, H4.out⟩⟩
            rw [stepsTo_succ, List.length_append, ← HP.out.2.1, ← HP.out.2.2.1]
            have := hI.out.1
            omega
          case measure => simp [intOf]; omega
      · obtain rfl : PL = k := by omega
        obtain ⟨⟨e0, e1, e2, e3, e4⟩, ⟨k0, k1, k2, k3, k4⟩, hbz⟩ := HF.out wr hI.out.2
        have hRs : R = (zeroS, 10) := by
          have h1 := HR.out
          have h2 : (stepsL p)[q]? = none := by
            rw [List.getElem?_eq_none_iff]
            have h3 := hI.out.1
            rw [HC.out.2.2.2.2.2.1] at h3
            unfold stepsL
            omega
          rw [h2] at h1
          exact h1
        have HB2 := Lib.hid (And.intro hbz hRs)
        clear hbz hRs
        go_wp2_with fail
        rw [HB2.out.2]
        exact bodyPost_ret (v := .tuple #[.agg #[.int .i64 0, .int .i64 0, .int .i64 0, .int .i64 0, .int .i64 0], .int .i64 10]) (by simp [results, Try.f27, go_sem, e0, e1, e2, e3, e4]) rfl ⟨rfl, HB2.out.1⟩
/-- A step as the reference has it: the same cells. -/
theorem plain_any (W : World) (s : Stp.Stp) : Calls Try.prog 36 #[s.val] W fun e w' => e = .returned (.agg s.cells.toArray) ∧ Below W.heap.size W w' := by
  obtain ⟨k, pos, layer, head, row⟩ := s
  unfold Stp.Stp.val
  go_enter Try.func36, Try.ntmps36
  go_wp2_with fail
  refine bodyPost_ret (v := .agg #[.int .i64 k, .int .i64 pos, .int .i64 layer, .int .i64 head, .int .i64 row]) (by simp [results, Try.f36, go_sem]) rfl ⟨rfl, ((Below.refl _ _).alloc (Nat.le_refl _) _).alloc (by simp) _⟩
set_option maxRecDepth 100000 in
theorem of_any (W : World) (p : Pln) (ctx K : Int) : Calls Try.prog 33 #[.agg (planC p ctx K).toArray] W fun e w' => e = .returned (.agg (refC p).toArray) ∧ Below W.heap.size W w' := by
  unfold planC refC
  go_enter Try.func33, Try.ntmps33
  go_wp2_with fail
  refine bodyPost_ret (v := .agg #[.int .i64 (p.dim : Int), .int .i64 (p.heads : Int), .int .i64 (p.layers : Int), .int .i64 (p.hidden : Int), .int .i64 (p.vocab : Int), .int .i64 (p.prompt : Int), .int .i64 (p.limit : Int)]) (by simp [results, Try.f33, go_sem]) rfl ⟨rfl, (((Below.refl _ _).alloc (Nat.le_refl _) _).alloc (by simp) _).alloc (by simp; omega) _⟩
end Go.Proofs.Ytfhaebaegkpkhaa.Tl

set_option linter.unusedVariables false
set_option linter.unusedSimpArgs false
namespace Go.Proofs.Ytfhaebaegkpkhaa.Tl
open Go.RowKit OwnS Byt Cfg Stp Pln QTail RevL Go.Shelf
attribute [local go_sem] Oper.semAt_some
/-- All rows of cells but those of T are as they were. -/
structure KeepC (T : Nat → Prop) (A B : World) : Prop where
  size : A.heap.size ≤ B.heap.size
  same : ∀ k cs t fr, ¬ T k → A.heap[k]? = some (.cells cs t fr) → B.heap[k]? = some (.cells cs t fr)
section
variable {T : Nat → Prop} {A B C : World}
theorem KeepC.refl (T : Nat → Prop) (A : World) : KeepC T A A := ⟨Nat.le_refl _, fun _ _ _ _ _ h => h⟩
theorem KeepC.trans (h : KeepC T A B) (k : KeepC T B C) : KeepC T A C := ⟨Nat.le_trans h.size k.size, fun b cs t fr hT hA => k.same b cs t fr hT (h.same b cs t fr hT hA)⟩
theorem KeepC.below (h : Below A.heap.size A B) : KeepC T A B := ⟨h.size, fun b cs t fr _ hA => (h.block b (Array.getElem?_eq_some_iff.1 hA).1).trans hA⟩
theorem KeepC.setCell (h : KeepC T A B) {p : Addr} (hp : T p.block) (v : Value) : KeepC T A (B.setCell p v) :=
  h.trans ⟨by simp, fun b cs t fr hT hB => (Below.heap_setCell _ _ _ _ (fun e => hT (by rw [e]; exact hp))).trans hB⟩
theorem KeepC.putObj (W : World) (l : Nat) (o o' : Obj) (h : W.heap[l]? = some o) (ho : o.isCells = false) : KeepC T W (W.putObj l o') :=
  ⟨(grownBy_putObj' W l o').size, fun b cs t fr _ hB => ((grownBy_putObj' W l o').block b (Array.getElem?_eq_some_iff.1 hB).1 (fun e => by cases e; rw [h] at hB; cases hB; cases ho)).trans hB⟩
theorem KeepC.cell (h : KeepC T A B) {p : Addr} {u : Value} (hp : A.cell? p = some u) (hT : ¬ T p.block) : B.cell? p = some u := by
  have hb : ∃ cs t fr, A.heap[p.block]? = some (.cells cs t fr) := by
    unfold World.cell? at hp
    split at hp
    · rename_i c t fr he
      exact ⟨c, t, fr, he⟩
    · cases hp
  obtain ⟨cs, t, fr, he⟩ := hb
  exact (World.cell?_of_block ((h.same _ _ _ _ hT he).trans he.symm)).trans hp
theorem KeepC.range (h : KeepC T A B) {g o : Nat} {cs : List Value} (hr : A.rangeAt g o cs) (hT : ¬ T g) : B.rangeAt g o cs := fun j u hj => h.cell (hr j u hj) hT
end
set_option maxRecDepth 100000 in
set_option maxHeartbeats 4000000 in
theorem steps1_in (n : Nat) (hn : 1 ≤ n) (l q : Nat) (T : Nat → Prop) (p : Pln) (ctx K : Int) (h : Okp p ctx K) (hq : ¬ T q) (W0 : World) (hT : ∀ k, T k → k < W0.heap.size) (J Jx : List Stp.Stp → World → Prop)
    (hY : ∀ pre x W, J pre W → pre.length < (stepsL p).length → YieldAt Fence.wide (n - 1) Try.prog l #[x.val] W fun e W' =>
      (e = .returned (.bool true) ∧ J (pre ++ [x]) W' ∧ KeepC T W W') ∨ (e = .returned (.bool false) ∧ Jx (pre ++ [x]) W'))
    (hJ : ∀ pre W W2, J pre W → W.grownBy W2 none → J pre W2)
    (W : World) (hW : Below W0.heap.size W0 W) (hpl : W.heap[q]? = some (.cells (planC p ctx K).toArray 62 (0, 0))) (h0 : J [] W) :
    CallsIn Fence.wide n Try.prog 77 #[.func (.yield l) #[] #[], .pointer (some ⟨q, 0, none⟩)] W fun e W' => (∃ v, e = .returned v) ∧
      (J (stepsL p) W' ∨ (∃ pre, pre <+: stepsL p ∧ Jx pre W')) := by
  have hpp := fun w => places_any w p ctx K h
  obtain ⟨f0, f1, f2⟩ := h.facts
  obtain ⟨g1, g2⟩ := h.2.1
  have hpc := fun w (a : Nat) (ha : a ≤ 64) => place_any w p ctx K a (by omega) (by omega) (by omega) (by omega) (by omega) (by omega) (by omega)
  have hN : p.places ≤ 64 := by unfold Pln.places; omega
  obtain ⟨PL, hPL⟩ : ∃ PL, PL = p.places := ⟨_, rfl⟩
  rw [← hPL] at hpp hN
  unfold planC at hpp hpc
  have hplr := rangeAt_whole hpl
  have HC := Lib.hid (And.intro hpp (And.intro hpc (And.intro hPL (And.intro f0 hN))))
  have HT := Lib.hid (And.intro hq hT)
  have HJ := Lib.hid (And.intro hY hJ)
  have HPL := Lib.hid (And.intro hpl hW)
  clear hpp hpc hPL f0 f1 f2 g1 g2 h hq hT hY hJ hpl hW
  refine callsIn_of_wp Try.func77 rfl trivial ?_ rfl
  simp only [Try.ntmps77, List.size_toArray, List.length_cons, List.length_nil, Nat.reduceAdd, Nat.reduceSub, Array.replicate_succ, Array.replicate_zero, List.push_toArray, List.append_toArray, List.nil_append, List.cons_append]
  have c0 : W.cell? ⟨q, 0, none⟩ = some (.int .i64 (p.vocab : Int)) := hplr 0 _ rfl
  have c1 : W.cell? ⟨q, 1, none⟩ = some (.int .i64 (p.dim : Int)) := hplr 1 _ rfl
  have c2 : W.cell? ⟨q, 2, none⟩ = some (.int .i64 (p.heads : Int)) := hplr 2 _ rfl
  have c3 : W.cell? ⟨q, 3, none⟩ = some (.int .i64 (p.layers : Int)) := hplr 3 _ rfl
  have c4 : W.cell? ⟨q, 4, none⟩ = some (.int .i64 ctx) := hplr 4 _ rfl
  have c5 : W.cell? ⟨q, 5, none⟩ = some (.int .i64 (p.hidden : Int)) := hplr 5 _ rfl
  have c6 : W.cell? ⟨q, 6, none⟩ = some (.int .i64 (p.prompt : Int)) := hplr 6 _ rfl
  have c7 : W.cell? ⟨q, 7, none⟩ = some (.int .i64 (p.limit : Int)) := hplr 7 _ rfl
  have c8 : W.cell? ⟨q, 8, none⟩ = some (.int .i64 K) := hplr 8 _ rfl
  clear hplr
  gi_wp2_with fail
  refine ⟨trivial, ?_⟩
  with_reducible refine CallsIn.mono (callsIn_wide.2 (HC.out.1 W)) ?_
  rintro e w2 ⟨rfl, hb2⟩
  have hJ2 := HJ.out.2 _ _ _ h0 (grown_of_below hb2)
  have hk2 : KeepC T W w2 := KeepC.below hb2
  have H2 := Lib.hid (And.intro hJ2 hk2)
  clear hb2 hJ2 hk2 h0 c0 c1 c2 c3 c4 c5 c6 c7 c8
  gi_wp2_with fail
  gi_loopw [8] (fun i wr => ∃ k : Nat, k ≤ PL ∧ i = .int .i64 (k : Int) ∧ Hid (J (stepsTo p k) wr ∧ KeepC T W wr)) (fun i _ => PL - (intOf i).toNat)
  case atStart => exact ⟨0, Nat.zero_le _, rfl, H2⟩
  case round =>
    obtain ⟨k, hk, rfl, hI⟩ := hrel
    by_cases hlt : k < PL
    · have i1 : (k : Int) < (PL : Int) := by omega
      have i2 : (k : Int) ≤ 64 := by have := HC.out.2.2.2.2; omega
      have hplr := hI.out.2.range (rangeAt_whole HPL.out.1) HT.out.1
      have c0 : wr.cell? ⟨q, 0, none⟩ = some (.int .i64 (p.vocab : Int)) := hplr 0 _ rfl
      have c1 : wr.cell? ⟨q, 1, none⟩ = some (.int .i64 (p.dim : Int)) := hplr 1 _ rfl
      have c2 : wr.cell? ⟨q, 2, none⟩ = some (.int .i64 (p.heads : Int)) := hplr 2 _ rfl
      have c3 : wr.cell? ⟨q, 3, none⟩ = some (.int .i64 (p.layers : Int)) := hplr 3 _ rfl
      have c4 : wr.cell? ⟨q, 4, none⟩ = some (.int .i64 ctx) := hplr 4 _ rfl
      have c5 : wr.cell? ⟨q, 5, none⟩ = some (.int .i64 (p.hidden : Int)) := hplr 5 _ rfl
      have c6 : wr.cell? ⟨q, 6, none⟩ = some (.int .i64 (p.prompt : Int)) := hplr 6 _ rfl
      have c7 : wr.cell? ⟨q, 7, none⟩ = some (.int .i64 (p.limit : Int)) := hplr 7 _ rfl
      have c8 : wr.cell? ⟨q, 8, none⟩ = some (.int .i64 K) := hplr 8 _ rfl
      clear hplr
      have hple := HC.out.2.1 wr k (by omega)
      obtain ⟨L, hL⟩ : ∃ L, L = Stp.placeL p k := ⟨_, rfl⟩
      rw [← hL] at hple
      unfold SlcPost at hple
      obtain ⟨m, hm⟩ : ∃ m, m = L.length := ⟨_, rfl⟩
      rw [← hm] at hple
      have hmb : m ≤ 700000 := by
        have h1 := stepsTo_le p HC.out.2.2.2.1 (k + 1) (by omega)
        rw [stepsTo_succ, List.length_append, ← hL, ← hm] at h1
        omega
      have HP := Lib.hid (And.intro hple (And.intro hL hm))
      clear hple hL hm
      gi_wp2_with fail
      refine ⟨trivial, ?_⟩
      with_reducible refine CallsIn.mono (callsIn_wide.2 HP.out.1) ?_
      rintro e w3 ⟨A3, cc3, rfl, ho3, hb3⟩
      have hJ3 := HJ.out.2 _ _ _ hI.out.1 (grown_of_below hb3)
      have hk3 : KeepC T W w3 := hI.out.2.trans (KeepC.below hb3)
      have hblk3 : ∀ b, (Value.slice A3 m cc3).ownBlock = some b → ¬ T b := fun b hb hTb => by
        have h1 := (ho3.lt b hb).1
        have h2 := HT.out.2 b hTb
        have h3 := HPL.out.2.size
        have h4 := hI.out.2.size
        omega
      have H3 := Lib.hid (And.intro hJ3 (And.intro hk3 (And.intro ho3.sees hblk3)))
      clear hJ3 hk3 ho3 hb3 hblk3 c0 c1 c2 c3 c4 c5 c6 c7 c8
      gi_wp2_with fail
      gi_loopw [15] (fun i ws => ∃ j : Nat, j ≤ m ∧ i = .int .i64 (j : Int) ∧ Hid (J (stepsTo p k ++ L.take j) ws ∧ KeepC T w3 ws)) (fun i _ => m - (intOf i).toNat)
      case atStart =>
        refine ⟨0, Nat.zero_le _, rfl, Lib.hid ⟨?_, KeepC.refl _ _⟩⟩
        rw [List.take_zero, List.append_nil]
        exact H3.out.1
      case round =>
        obtain ⟨j, hj, rfl, hG⟩ := hrel
        by_cases hjm : j < m
        · have hjL : j < L.length := by have := HP.out.2.2; omega
          have j1 : (j : Int) < (m : Int) := by omega
          have j2 : (j : Int) ≤ 700000 := by omega
          obtain ⟨g, o, cap, he, -, -, hra⟩ := H3.out.2.2.1.holds (by omega)
          injection he with he1 he2 he3
          subst he1
          obtain ⟨s, hs⟩ : ∃ s, L[j]? = some s := ⟨_, List.getElem?_eq_getElem hjL⟩
          have hsk := step_at hra hjL
          rw [(List.getElem?_eq_some_iff.1 hs).2] at hsk
          have hsk2 := hG.out.2.range hsk (H3.out.2.2.2 g rfl)
          obtain ⟨d0, d1, d2, d3, d4⟩ : wr.cell? ⟨g, o + j * 5, none⟩ = some (.int .i64 s.kind) ∧ wr.cell? ⟨g, o + j * 5 + 1, none⟩ = some (.int .i64 s.pos) ∧ wr.cell? ⟨g, o + j * 5 + 2, none⟩ = some (.int .i64 s.layer) ∧ wr.cell? ⟨g, o + j * 5 + 3, none⟩ = some (.int .i64 s.head) ∧ wr.cell? ⟨g, o + j * 5 + 4, none⟩ = some (.int .i64 s.row) := ⟨hsk2 0 _ rfl, hsk2 1 _ rfl, hsk2 2 _ rfl, hsk2 3 _ rfl, hsk2 4 _ rfl⟩
          have hJ4 : J (stepsTo p k ++ L.take j) (wr.alloc (.cells #[.int .i64 s.kind, .int .i64 s.pos, .int .i64 s.layer, .int .i64 s.head, .int .i64 s.row] 69)) := HJ.out.2 _ _ _ hG.out.1 (World.grownBy_alloc _ _ _)
          have hkb : KeepC T w3 (wr.alloc (.cells #[.int .i64 s.kind, .int .i64 s.pos, .int .i64 s.layer, .int .i64 s.head, .int .i64 s.row] 69)) := hG.out.2.trans (KeepC.below ((Below.refl _ _).alloc (Nat.le_refl _) _))
          have hlen : (stepsTo p k ++ L.take j).length < (stepsL p).length := by
            have h1 := steps_at (p := p) (k := k) (j := j) (s := s) (by have := HC.out.2.2.1; omega) (by rw [← HP.out.2.1]; exact hs)
            have h2 := (List.getElem?_eq_some_iff.1 h1).1
            rw [List.length_append, List.length_take]
            omega
          obtain ⟨fn, tmps, assign, body, hy, hR⟩ := HJ.out.1 _ s _ hJ4 hlen
          have htk : L.take j ++ [s] = L.take (j + 1) := by rw [List.take_add_one, hs]; rfl
          rw [List.append_assoc, htk] at hR
          have HB := Lib.hid (And.intro hkb hs)
          unfold Stp.Stp.val at hy
          clear hra hsk hsk2 hs hJ4 hkb hlen htk hjL he2 he3
          gi_wp2_with fail
          refine hR.mono ?_
          rintro e W3 (⟨rfl, hJ5, hk5⟩ | ⟨rfl, hJx5⟩)
          · gi_wp2
            go_roundw
            case rel => exact ⟨j + 1, by omega, by simp, Lib.hid ⟨hJ5, HB.out.1.trans hk5⟩⟩
            case measure => simp [intOf]; omega
          · gi_wp2
            refine bodyPost_ret (results_none rfl _ _ _) rfl ?_
            refine ⟨⟨_, rfl⟩, .inr ⟨_, ?_, hJx5⟩⟩
            have h1 : stepsTo p k ++ L.take (j + 1) <+: stepsTo p k ++ L := (List.prefix_append_right_inj _).2 (List.take_prefix _ _)
            have h2 : stepsTo p k ++ L = stepsTo p (k + 1) := by rw [stepsTo_succ, HP.out.2.1]
            obtain ⟨t, ht⟩ := stepsTo_prefix p (k + 1) p.places (by have := HC.out.2.2.1; omega)
            rw [h2] at h1
            exact h1.trans ⟨t, ht.symm⟩
        · obtain rfl : m = j := by omega
          have hG1 := hG.out.1
          rw [HP.out.2.2, List.take_length, HP.out.2.1, ← stepsTo_succ] at hG1
          have HG1 := Lib.hid (And.intro hG1 (H3.out.2.1.trans hG.out.2))
          clear hG1
          gi_wp2
          go_roundw
          case rel => exact ⟨k + 1, by omega, by simp, HG1⟩
          case measure => simp [intOf]; omega
    · obtain rfl : PL = k := by omega
      have hJf := hI.out.1
      rw [HC.out.2.2.1] at hJf
      gi_wp2
      go_end0
      exact ⟨⟨_, rfl⟩, .inl hJf⟩
/-- All steps of a plan, as a sequence. -/
theorem steps_seq (n : Nat) (hn : 1 ≤ n) (w : World) (q : Nat) (T : Nat → Prop) (p : Pln) (ctx K : Int) (h : Okp p ctx K) (hq : ¬ T q) (hpl : w.heap[q]? = some (.cells (planC p ctx K).toArray 62 (0, 0))) (hT : ∀ k, T k → k < w.heap.size) :
    SeqStopsK Fence.wide n Try.prog 77 #[.pointer (some ⟨q, 0, none⟩)] (fun x : Stp.Stp => #[x.val]) (KeepC T) (fun ys => ys = stepsL p) (fun pre => pre <+: stepsL p) (stepsL p).length w := by
  intro l J Jx W hW hA _ hY hJ0
  refine CallsIn.mono (steps1_in n hn l q T p ctx K h hq w hT J Jx (fun pre x W => hY pre x W) (fun pre W1 W2 hj hgr => hA pre W1 W2 none hj hgr (by simp)) W hW ((hW.block q (Array.getElem?_eq_some_iff.1 hpl).1).trans hpl) hJ0) ?_
  rintro e W' ⟨he, h1 | h1⟩
  · exact ⟨he, .inl ⟨_, rfl, h1⟩⟩
  · exact ⟨he, .inr h1⟩
end Go.Proofs.Ytfhaebaegkpkhaa.Tl
