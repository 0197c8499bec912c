/- steps.Plan.Reads. Printed by genptc.py. -/
import Derived.Test.YtfhaebaegkpkhaaTlB
set_option linter.unusedVariables false
set_option linter.unusedSimpArgs false
namespace Go.Proofs.Ytfhaebaegkpkhaa.Tl
open Go.RowKit OwnS Byt Cfg Stp Pln QTail RevL Rf12 Ten
attribute [local go_sem ↓] Kit.execOp_call_slot
attribute [local go_sem] Kit.callSlot_func
/-- A literal slice of ints, in a walk. -/
theorem wpList_ints {ops : Array Oper} {rest : List Oper} {o : Oper} {a : Act} {w : World} {Q : Exit → Act → World → Prop} (hgd : o.guard = none) {n : Nat} {parts : Array (Nat × Operand)} (ho : o.op = .buildSlice 26 n parts) (ks : List Int) (h0 : 0 < ks.length) (hmax : ks.length ≤ 1000) (hn : n = ks.length)
    (ps : Array (Nat × Value)) (hps : (parts.map fun x => (x.1, a.eval x.2)) = ps) (hp : ps.toList = ((intsV ks).zipIdx 0).map fun x => (x.2, x.1))
    (h : ∀ g w', Ints w' (.slice (some ⟨g, 0, none⟩) n n) ks → Below w.heap.size w w' → Owns w' w.heap.size 1 (.slice (some ⟨g, 0, none⟩) n n) n (intsV ks) → wpList Try.prog ops Q rest (a.put o.dst (.slice (some ⟨g, 0, none⟩) n n)) w') : wpList Try.prog ops Q (o :: rest) a w := by
  refine wpList_plain hgd fun K hK => ?_
  have hr := run_build_cells w 26 3 (.int .i64 0) 8 Try.underlying26 infoI (intsV ks) (intsV_cells ks) (by rw [intsV_length]; omega) (by rw [intsV_length]; omega) n (by rw [intsV_length]; omega) ps hp
  have hl := intsV_length ks
  unfold Oper.wp
  have he : (execOp a.eval o).run Try.prog w = .ok (.value (.slice (some ⟨w.heap.size, 0, none⟩) n n)) (w.alloc (.cells (intsV ks).toArray 3)) := by
    unfold execOp
    simp only [ho, Sem.run_bind, hps]
    rw [hr]
    rfl
  rw [he, Oper.upon_value]
  have ho : Owns (w.alloc (.cells (intsV ks).toArray 3)) w.heap.size 1 (.slice (some ⟨w.heap.size, 0, none⟩) n n) n (intsV ks) := Owns.whole (heap_alloc_new w _) (Nat.le_refl _) (by omega) (by unfold maxLen; omega)
  refine hK _ _ (h _ _ ?_ ((Below.refl _ _).alloc (Nat.le_refl _) _) ho)
  subst hn
  exact ho.sees
theorem index_slices (w : World) (cs : Array Value) (k : Nat) (hk : k < 24) (hs : cs.size = 24) : (Instr.index 162 (.agg cs) (.int .i64 (k : Int))).run Try.prog w = .ok (cs[k]'(by omega)) w := by
  have hu : Try.prog.underlying 162 = some (.array 24 26) := by kernel_rfl
  unfold Instr.index
  simp [go_sem, run_underlying hu, run_underlying Try.underlying26]
  rw [if_pos hk, Array.getElem?_eq_getElem (by omega)]
  rfl
/-- What Reads hands back. -/
def ReadsPost (W : World) (l : List Int) (e : Ending) (w' : World) : Prop := ∃ A n c, e = .returned (.slice A n c) ∧ n = l.length ∧ Ints w' (.slice A n c) l ∧ Below W.heap.size W w'
/-- The plan, the step in memory; has. -/
structure RAt (W w1 : World) (p : Pln) (ctx K : Int) (s : Stp.Stp) : Prop where
  below : Below W.heap.size W w1
  pl : w1.heap[W.heap.size]? = some (.cells (planC p ctx K).toArray 62 (0, 0))
  st : w1.heap[W.heap.size + 1]? = some (.cells s.cells.toArray 69 (0, 0))
  has : Calls Try.prog 85 #[.agg (planC p ctx K).toArray, .agg s.cells.toArray] w1 fun e w' => e = .returned (.bool true) ∧ Below w1.heap.size w1 w'
theorem rat_of (W : World) (p : Pln) (ctx K : Int) (h : Okp p ctx K) (at_ : Nat) (hat : at_ < p.places) (k0 pos layer head row : Int) (hs : (⟨k0, pos, layer, head, row⟩ : Stp.Stp) ∈ Stp.placeL p at_) (hpos : pos = (at_ : Int)) :
    RAt W ((W.alloc (.cells (planC p ctx K).toArray 62)).alloc (.cells #[.int .i64 k0, .int .i64 pos, .int .i64 layer, .int .i64 head, .int .i64 row] 69)) p ctx K ⟨k0, pos, layer, head, row⟩ := by
  refine ⟨((Below.refl _ _).alloc (Nat.le_refl _) _).alloc (by simp) _, ?_, ?_, has_any _ p ctx K h at_ hat _ hs hpos⟩
  · rw [Below.heap_alloc _ _ _ (by simp)]; exact heap_alloc_new W _
  · have := heap_alloc_new (W.alloc (.cells (planC p ctx K).toArray 62)) (.cells #[.int .i64 k0, .int .i64 pos, .int .i64 layer, .int .i64 head, .int .i64 row] 69)
    simpa [Stp.Stp.cells] using this
set_option maxRecDepth 100000 in
set_option maxHeartbeats 4000000 in
theorem reads_1 (W : World) (p : Pln) (ctx K : Int) (h : Okp p ctx K) (at_ : Nat) (hat : at_ < p.places) (pos layer head row : Int) (hs : (⟨1, pos, layer, head, row⟩ : Stp.Stp) ∈ Stp.placeL p at_) :
    Calls Try.prog 37 #[.agg (planC p ctx K).toArray, .agg #[.int .i64 1, .int .i64 pos, .int .i64 layer, .int .i64 head, .int .i64 row]] W (ReadsPost W (readsL p.places ⟨1, pos, layer, head, row⟩)) := by
  obtain ⟨hb, f1, f2⟩ := h.facts
  have hpb : p.places ≤ 64 := by unfold Pln.places; omega
  have hok := ok_place hb (by omega) hs
  have hra := rat_of W p ctx K h at_ hat 1 pos layer head row hs hok.pos
  obtain ⟨w1, hw1⟩ : ∃ w1, w1 = (W.alloc (.cells (planC p ctx K).toArray 62)).alloc (.cells #[.int .i64 1, .int .i64 pos, .int .i64 layer, .int .i64 head, .int .i64 row] 69) := ⟨_, rfl⟩
  rw [← hw1] at hra
  have HW := Lib.hid hw1
  have HC := Lib.hid hra
  clear hw1 hra hs hok hb f1 f2 hpb hat
  go_enter Try.func37, Try.ntmps37
  go_upto_region 1 with fail
  rw [← HW.out]
  go_upto_region 3 with (first | (refine wpList_load_mid rfl 62 (.tmp 2) rfl W.heap.size 0 rfl (planC p ctx K) _ (rangeAt_whole HC.out.pl) Try.underlying62 rfl plan_size ?_; simp only [Act.put, List.setIfInBounds_toArray, List.set_cons_succ, List.set_cons_zero]) | (refine wpList_load_mid rfl 69 (.tmp 3) rfl (W.heap.size + 1) 0 rfl (Stp.Stp.cells ⟨1, pos, layer, head, row⟩) _ (rangeAt_whole HC.out.st) Try.underlying69 rfl step_size ?_; simp only [Act.put, List.setIfInBounds_toArray, List.set_cons_succ, List.set_cons_zero]) | (go_at_call 85; (with_reducible refine Calls.mono HC.out.has ?_); rintro e w2 ⟨rfl, hb2⟩; have HB := Lib.hid hb2; clear hb2))
  have hst2 := (HB.out.block _ (Array.getElem?_eq_some_iff.1 HC.out.st).1).trans HC.out.st
  have hpl2 := (HB.out.block _ (Array.getElem?_eq_some_iff.1 HC.out.pl).1).trans HC.out.pl
  have c0 : w2.cell? ⟨W.heap.size + 1, 0, none⟩ = some (.int .i64 1) := by rw [cell_of_row _ _ 0 _ _ _ hst2]; rfl
  have c1 : w2.cell? ⟨W.heap.size + 1, 1, none⟩ = some (.int .i64 pos) := by rw [cell_of_row _ _ 1 _ _ _ hst2]; rfl
  have c2 : w2.cell? ⟨W.heap.size + 1, 2, none⟩ = some (.int .i64 layer) := by rw [cell_of_row _ _ 2 _ _ _ hst2]; rfl
  have c4 : w2.cell? ⟨W.heap.size + 1, 4, none⟩ = some (.int .i64 row) := by rw [cell_of_row _ _ 4 _ _ _ hst2]; rfl
  have hb12 := HB.out
  have HT := Lib.hid (And.intro hst2 (And.intro hpl2 (below_chain HC.out.below HB.out)))
  clear hst2 hpl2 hb12
  go_upto_region 14 with fail
  refine wp_region_lit ?_
  clear c1 c2 c4
  refine wpList_ints rfl rfl [0] (by decide) (by decide) rfl #[(0, .int .i64 0)] (by simp only [List.map_toArray, List.map_cons, List.map_nil]; rfl) rfl ?_
  intro g0 x0 hi0 hb0 _
  have hc0 := hb0
  have hk0 := hi0
  clear hi0 hb0
  simp only [Act.put, List.setIfInBounds_toArray, List.set_cons_succ, List.set_cons_zero]
  refine wpList_ints rfl rfl [1] (by decide) (by decide) rfl #[(0, .int .i64 1)] (by simp only [List.map_toArray, List.map_cons, List.map_nil]; rfl) rfl ?_
  intro g1 x1 hi1 hb1 _
  have hc1 := below_chain hc0 hb1
  have hk1 := Ints.new hk0 hb1
  clear hc0 hk0 hi1 hb1
  simp only [Act.put, List.setIfInBounds_toArray, List.set_cons_succ, List.set_cons_zero]
  refine wpList_ints rfl rfl [2, 3] (by decide) (by decide) rfl #[(0, .int .i64 2), (1, .int .i64 3)] (by simp only [List.map_toArray, List.map_cons, List.map_nil]; rfl) rfl ?_
  intro g2 x2 hi2 hb2 _
  have hc2 := below_chain hc1 hb2
  have hk2 := Ints.new hk1 hb2
  clear hc1 hk1 hi2 hb2
  simp only [Act.put, List.setIfInBounds_toArray, List.set_cons_succ, List.set_cons_zero]
  refine wpList_ints rfl rfl [2, 4] (by decide) (by decide) rfl #[(0, .int .i64 2), (1, .int .i64 4)] (by simp only [List.map_toArray, List.map_cons, List.map_nil]; rfl) rfl ?_
  intro g3 x3 hi3 hb3 _
  have hc3 := below_chain hc2 hb3
  have hk3 := Ints.new hk2 hb3
  clear hc2 hk2 hi3 hb3
  simp only [Act.put, List.setIfInBounds_toArray, List.set_cons_succ, List.set_cons_zero]
  refine wpList_ints rfl rfl [2, 5] (by decide) (by decide) rfl #[(0, .int .i64 2), (1, .int .i64 5)] (by simp only [List.map_toArray, List.map_cons, List.map_nil]; rfl) rfl ?_
  intro g4 x4 hi4 hb4 _
  have hc4 := below_chain hc3 hb4
  have hk4 := Ints.new hk3 hb4
  clear hc3 hk3 hi4 hb4
  simp only [Act.put, List.setIfInBounds_toArray, List.set_cons_succ, List.set_cons_zero]
  refine wpList_ints rfl rfl [3] (by decide) (by decide) rfl #[(0, .int .i64 3)] (by simp only [List.map_toArray, List.map_cons, List.map_nil]; rfl) rfl ?_
  intro g5 x5 hi5 hb5 _
  have hc5 := below_chain hc4 hb5
  have hk5 := Ints.new hk4 hb5
  clear hc4 hk4 hi5 hb5
  simp only [Act.put, List.setIfInBounds_toArray, List.set_cons_succ, List.set_cons_zero]
  refine wpList_ints rfl rfl [4] (by decide) (by decide) rfl #[(0, .int .i64 4)] (by simp only [List.map_toArray, List.map_cons, List.map_nil]; rfl) rfl ?_
  intro g6 x6 hi6 hb6 _
  have hc6 := below_chain hc5 hb6
  have hk6 := Ints.new hk5 hb6
  clear hc5 hk5 hi6 hb6
  simp only [Act.put, List.setIfInBounds_toArray, List.set_cons_succ, List.set_cons_zero]
  refine wpList_ints rfl rfl [5] (by decide) (by decide) rfl #[(0, .int .i64 5)] (by simp only [List.map_toArray, List.map_cons, List.map_nil]; rfl) rfl ?_
  intro g7 x7 hi7 hb7 _
  have hc7 := below_chain hc6 hb7
  have hk7 := Ints.new hk6 hb7
  clear hc6 hk6 hi7 hb7
  simp only [Act.put, List.setIfInBounds_toArray, List.set_cons_succ, List.set_cons_zero]
  refine wpList_ints rfl rfl [7] (by decide) (by decide) rfl #[(0, .int .i64 7)] (by simp only [List.map_toArray, List.map_cons, List.map_nil]; rfl) rfl ?_
  intro g8 x8 hi8 hb8 _
  have hc8 := below_chain hc7 hb8
  have hk8 := Ints.new hk7 hb8
  clear hc7 hk7 hi8 hb8
  simp only [Act.put, List.setIfInBounds_toArray, List.set_cons_succ, List.set_cons_zero]
  refine wpList_ints rfl rfl [6, 10] (by decide) (by decide) rfl #[(0, .int .i64 6), (1, .int .i64 10)] (by simp only [List.map_toArray, List.map_cons, List.map_nil]; rfl) rfl ?_
  intro g9 x9 hi9 hb9 _
  have hc9 := below_chain hc8 hb9
  have hk9 := Ints.new hk8 hb9
  clear hc8 hk8 hi9 hb9
  simp only [Act.put, List.setIfInBounds_toArray, List.set_cons_succ, List.set_cons_zero]
  refine wpList_ints rfl rfl [1, 10] (by decide) (by decide) rfl #[(0, .int .i64 1), (1, .int .i64 10)] (by simp only [List.map_toArray, List.map_cons, List.map_nil]; rfl) rfl ?_
  intro g10 x10 hi10 hb10 _
  have hc10 := below_chain hc9 hb10
  have hk10 := Ints.new hk9 hb10
  clear hc9 hk9 hi10 hb10
  simp only [Act.put, List.setIfInBounds_toArray, List.set_cons_succ, List.set_cons_zero]
  refine wpList_ints rfl rfl [1] (by decide) (by decide) rfl #[(0, .int .i64 1)] (by simp only [List.map_toArray, List.map_cons, List.map_nil]; rfl) rfl ?_
  intro g11 x11 hi11 hb11 _
  have hc11 := below_chain hc10 hb11
  have hk11 := Ints.new hk10 hb11
  clear hc10 hk10 hi11 hb11
  simp only [Act.put, List.setIfInBounds_toArray, List.set_cons_succ, List.set_cons_zero]
  refine wpList_ints rfl rfl [2, 8] (by decide) (by decide) rfl #[(0, .int .i64 2), (1, .int .i64 8)] (by simp only [List.map_toArray, List.map_cons, List.map_nil]; rfl) rfl ?_
  intro g12 x12 hi12 hb12 _
  have hc12 := below_chain hc11 hb12
  have hk12 := Ints.new hk11 hb12
  clear hc11 hk11 hi12 hb12
  simp only [Act.put, List.setIfInBounds_toArray, List.set_cons_succ, List.set_cons_zero]
  refine wpList_ints rfl rfl [8] (by decide) (by decide) rfl #[(0, .int .i64 8)] (by simp only [List.map_toArray, List.map_cons, List.map_nil]; rfl) rfl ?_
  intro g13 x13 hi13 hb13 _
  have hc13 := below_chain hc12 hb13
  have hk13 := Ints.new hk12 hb13
  clear hc12 hk12 hi13 hb13
  simp only [Act.put, List.setIfInBounds_toArray, List.set_cons_succ, List.set_cons_zero]
  refine wpList_ints rfl rfl [2, 9] (by decide) (by decide) rfl #[(0, .int .i64 2), (1, .int .i64 9)] (by simp only [List.map_toArray, List.map_cons, List.map_nil]; rfl) rfl ?_
  intro g14 x14 hi14 hb14 _
  have hc14 := below_chain hc13 hb14
  have hk14 := Ints.new hk13 hb14
  clear hc13 hk13 hi14 hb14
  simp only [Act.put, List.setIfInBounds_toArray, List.set_cons_succ, List.set_cons_zero]
  refine wpList_ints rfl rfl [8, 9] (by decide) (by decide) rfl #[(0, .int .i64 8), (1, .int .i64 9)] (by simp only [List.map_toArray, List.map_cons, List.map_nil]; rfl) rfl ?_
  intro g15 x15 hi15 hb15 _
  have hc15 := below_chain hc14 hb15
  have hk15 := Ints.new hk14 hb15
  clear hc14 hk14 hi15 hb15
  simp only [Act.put, List.setIfInBounds_toArray, List.set_cons_succ, List.set_cons_zero]
  refine wpList_ints rfl rfl [8, 10] (by decide) (by decide) rfl #[(0, .int .i64 8), (1, .int .i64 10)] (by simp only [List.map_toArray, List.map_cons, List.map_nil]; rfl) rfl ?_
  intro g16 x16 hi16 hb16 _
  have hc16 := below_chain hc15 hb16
  have hk16 := Ints.new hk15 hb16
  clear hc15 hk15 hi16 hb16
  simp only [Act.put, List.setIfInBounds_toArray, List.set_cons_succ, List.set_cons_zero]
  refine wpList_ints rfl rfl [1, 10] (by decide) (by decide) rfl #[(0, .int .i64 1), (1, .int .i64 10)] (by simp only [List.map_toArray, List.map_cons, List.map_nil]; rfl) rfl ?_
  intro g17 x17 hi17 hb17 _
  have hc17 := below_chain hc16 hb17
  have hk17 := Ints.new hk16 hb17
  clear hc16 hk16 hi17 hb17
  simp only [Act.put, List.setIfInBounds_toArray, List.set_cons_succ, List.set_cons_zero]
  refine wpList_ints rfl rfl [1] (by decide) (by decide) rfl #[(0, .int .i64 1)] (by simp only [List.map_toArray, List.map_cons, List.map_nil]; rfl) rfl ?_
  intro g18 x18 hi18 hb18 _
  have hc18 := below_chain hc17 hb18
  have hk18 := Ints.new hk17 hb18
  clear hc17 hk17 hi18 hb18
  simp only [Act.put, List.setIfInBounds_toArray, List.set_cons_succ, List.set_cons_zero]
  refine wpList_ints rfl rfl [2, 11] (by decide) (by decide) rfl #[(0, .int .i64 2), (1, .int .i64 11)] (by simp only [List.map_toArray, List.map_cons, List.map_nil]; rfl) rfl ?_
  intro g19 x19 hi19 hb19 _
  have hc19 := below_chain hc18 hb19
  have hk19 := Ints.new hk18 hb19
  clear hc18 hk18 hi19 hb19
  simp only [Act.put, List.setIfInBounds_toArray, List.set_cons_succ, List.set_cons_zero]
  refine wpList_ints rfl rfl [11, 0] (by decide) (by decide) rfl #[(0, .int .i64 11), (1, .int .i64 0)] (by simp only [List.map_toArray, List.map_cons, List.map_nil]; rfl) rfl ?_
  intro g20 x20 hi20 hb20 _
  have hc20 := below_chain hc19 hb20
  have hk20 := Ints.new hk19 hb20
  clear hc19 hk19 hi20 hb20
  simp only [Act.put, List.setIfInBounds_toArray, List.set_cons_succ, List.set_cons_zero]
  have hix : ∀ w, (Instr.index 162 (.agg #[Value.slice none 0 0, Value.slice (some ⟨g0, 0, none⟩) 1 1, Value.slice (some ⟨g1, 0, none⟩) 1 1, Value.slice (some ⟨g2, 0, none⟩) 2 2, Value.slice (some ⟨g3, 0, none⟩) 2 2, Value.slice (some ⟨g4, 0, none⟩) 2 2, Value.slice (some ⟨g5, 0, none⟩) 1 1, Value.slice (some ⟨g6, 0, none⟩) 1 1, Value.slice (some ⟨g7, 0, none⟩) 1 1, Value.slice none 0 0, Value.slice (some ⟨g8, 0, none⟩) 1 1, Value.slice none 0 0, Value.slice (some ⟨g9, 0, none⟩) 2 2, Value.slice (some ⟨g10, 0, none⟩) 2 2, Value.slice (some ⟨g11, 0, none⟩) 1 1, Value.slice (some ⟨g12, 0, none⟩) 2 2, Value.slice (some ⟨g13, 0, none⟩) 1 1, Value.slice (some ⟨g14, 0, none⟩) 2 2, Value.slice (some ⟨g15, 0, none⟩) 2 2, Value.slice (some ⟨g16, 0, none⟩) 2 2, Value.slice (some ⟨g17, 0, none⟩) 2 2, Value.slice (some ⟨g18, 0, none⟩) 1 1, Value.slice (some ⟨g19, 0, none⟩) 2 2, Value.slice (some ⟨g20, 0, none⟩) 2 2]) (.int .i64 1)).run Try.prog w = .ok (Value.slice (some ⟨g0, 0, none⟩) 1 1) w := fun w => index_slices w _ 1 (by decide) rfl
  have c20 := (hc20.cell (block_lt_of_cell c0)).trans c0
  have hcl := clone_ints x20 _ _ hk20 (by decide)
  unfold IntsPost at hcl
  have HZ := Lib.hid (And.intro hc20 hcl)
  clear hc20 hk20 hcl c0
  go_wp2_with (go_at_call 71; (refine Calls.mono HZ.out.2 ?_); rintro e w9 ⟨A9, z9, rfl, ho9, hb9⟩; have H9 := Lib.hid (And.intro ho9 hb9); clear ho9 hb9)
  go_ret
  exact ⟨_, _, _, rfl, rfl, H9.out.1.sees, below_chain HT.out.2.2 (below_chain HZ.out.1 H9.out.2)⟩
set_option maxRecDepth 100000 in
set_option maxHeartbeats 4000000 in
theorem reads_2 (W : World) (p : Pln) (ctx K : Int) (h : Okp p ctx K) (at_ : Nat) (hat : at_ < p.places) (pos layer head row : Int) (hs : (⟨2, pos, layer, head, row⟩ : Stp.Stp) ∈ Stp.placeL p at_) :
    Calls Try.prog 37 #[.agg (planC p ctx K).toArray, .agg #[.int .i64 2, .int .i64 pos, .int .i64 layer, .int .i64 head, .int .i64 row]] W (ReadsPost W (readsL p.places ⟨2, pos, layer, head, row⟩)) := by
  obtain ⟨hb, f1, f2⟩ := h.facts
  have hpb : p.places ≤ 64 := by unfold Pln.places; omega
  have hok := ok_place hb (by omega) hs
  have hra := rat_of W p ctx K h at_ hat 2 pos layer head row hs hok.pos
  obtain ⟨w1, hw1⟩ : ∃ w1, w1 = (W.alloc (.cells (planC p ctx K).toArray 62)).alloc (.cells #[.int .i64 2, .int .i64 pos, .int .i64 layer, .int .i64 head, .int .i64 row] 69) := ⟨_, rfl⟩
  rw [← hw1] at hra
  have HW := Lib.hid hw1
  have HC := Lib.hid hra
  clear hw1 hra hs hok hb f1 f2 hpb hat
  go_enter Try.func37, Try.ntmps37
  go_upto_region 1 with fail
  rw [← HW.out]
  go_upto_region 3 with (first | (refine wpList_load_mid rfl 62 (.tmp 2) rfl W.heap.size 0 rfl (planC p ctx K) _ (rangeAt_whole HC.out.pl) Try.underlying62 rfl plan_size ?_; simp only [Act.put, List.setIfInBounds_toArray, List.set_cons_succ, List.set_cons_zero]) | (refine wpList_load_mid rfl 69 (.tmp 3) rfl (W.heap.size + 1) 0 rfl (Stp.Stp.cells ⟨2, pos, layer, head, row⟩) _ (rangeAt_whole HC.out.st) Try.underlying69 rfl step_size ?_; simp only [Act.put, List.setIfInBounds_toArray, List.set_cons_succ, List.set_cons_zero]) | (go_at_call 85; (with_reducible refine Calls.mono HC.out.has ?_); rintro e w2 ⟨rfl, hb2⟩; have HB := Lib.hid hb2; clear hb2))
  have hst2 := (HB.out.block _ (Array.getElem?_eq_some_iff.1 HC.out.st).1).trans HC.out.st
  have hpl2 := (HB.out.block _ (Array.getElem?_eq_some_iff.1 HC.out.pl).1).trans HC.out.pl
  have c0 : w2.cell? ⟨W.heap.size + 1, 0, none⟩ = some (.int .i64 2) := by rw [cell_of_row _ _ 0 _ _ _ hst2]; rfl
  have c1 : w2.cell? ⟨W.heap.size + 1, 1, none⟩ = some (.int .i64 pos) := by rw [cell_of_row _ _ 1 _ _ _ hst2]; rfl
  have c2 : w2.cell? ⟨W.heap.size + 1, 2, none⟩ = some (.int .i64 layer) := by rw [cell_of_row _ _ 2 _ _ _ hst2]; rfl
  have c4 : w2.cell? ⟨W.heap.size + 1, 4, none⟩ = some (.int .i64 row) := by rw [cell_of_row _ _ 4 _ _ _ hst2]; rfl
  have hb12 := HB.out
  have HT := Lib.hid (And.intro hst2 (And.intro hpl2 (below_chain HC.out.below HB.out)))
  clear hst2 hpl2 hb12
  go_upto_region 14 with fail
  refine wp_region_lit ?_
  clear c1 c2 c4
  refine wpList_ints rfl rfl [0] (by decide) (by decide) rfl #[(0, .int .i64 0)] (by simp only [List.map_toArray, List.map_cons, List.map_nil]; rfl) rfl ?_
  intro g0 x0 hi0 hb0 _
  have hc0 := hb0
  clear hi0 hb0
  simp only [Act.put, List.setIfInBounds_toArray, List.set_cons_succ, List.set_cons_zero]
  refine wpList_ints rfl rfl [1] (by decide) (by decide) rfl #[(0, .int .i64 1)] (by simp only [List.map_toArray, List.map_cons, List.map_nil]; rfl) rfl ?_
  intro g1 x1 hi1 hb1 _
  have hc1 := below_chain hc0 hb1
  clear hc0
  have hk1 := hi1
  clear hi1 hb1
  simp only [Act.put, List.setIfInBounds_toArray, List.set_cons_succ, List.set_cons_zero]
  refine wpList_ints rfl rfl [2, 3] (by decide) (by decide) rfl #[(0, .int .i64 2), (1, .int .i64 3)] (by simp only [List.map_toArray, List.map_cons, List.map_nil]; rfl) rfl ?_
  intro g2 x2 hi2 hb2 _
  have hc2 := below_chain hc1 hb2
  have hk2 := Ints.new hk1 hb2
  clear hc1 hk1 hi2 hb2
  simp only [Act.put, List.setIfInBounds_toArray, List.set_cons_succ, List.set_cons_zero]
  refine wpList_ints rfl rfl [2, 4] (by decide) (by decide) rfl #[(0, .int .i64 2), (1, .int .i64 4)] (by simp only [List.map_toArray, List.map_cons, List.map_nil]; rfl) rfl ?_
  intro g3 x3 hi3 hb3 _
  have hc3 := below_chain hc2 hb3
  have hk3 := Ints.new hk2 hb3
  clear hc2 hk2 hi3 hb3
  simp only [Act.put, List.setIfInBounds_toArray, List.set_cons_succ, List.set_cons_zero]
  refine wpList_ints rfl rfl [2, 5] (by decide) (by decide) rfl #[(0, .int .i64 2), (1, .int .i64 5)] (by simp only [List.map_toArray, List.map_cons, List.map_nil]; rfl) rfl ?_
  intro g4 x4 hi4 hb4 _
  have hc4 := below_chain hc3 hb4
  have hk4 := Ints.new hk3 hb4
  clear hc3 hk3 hi4 hb4
  simp only [Act.put, List.setIfInBounds_toArray, List.set_cons_succ, List.set_cons_zero]
  refine wpList_ints rfl rfl [3] (by decide) (by decide) rfl #[(0, .int .i64 3)] (by simp only [List.map_toArray, List.map_cons, List.map_nil]; rfl) rfl ?_
  intro g5 x5 hi5 hb5 _
  have hc5 := below_chain hc4 hb5
  have hk5 := Ints.new hk4 hb5
  clear hc4 hk4 hi5 hb5
  simp only [Act.put, List.setIfInBounds_toArray, List.set_cons_succ, List.set_cons_zero]
  refine wpList_ints rfl rfl [4] (by decide) (by decide) rfl #[(0, .int .i64 4)] (by simp only [List.map_toArray, List.map_cons, List.map_nil]; rfl) rfl ?_
  intro g6 x6 hi6 hb6 _
  have hc6 := below_chain hc5 hb6
  have hk6 := Ints.new hk5 hb6
  clear hc5 hk5 hi6 hb6
  simp only [Act.put, List.setIfInBounds_toArray, List.set_cons_succ, List.set_cons_zero]
  refine wpList_ints rfl rfl [5] (by decide) (by decide) rfl #[(0, .int .i64 5)] (by simp only [List.map_toArray, List.map_cons, List.map_nil]; rfl) rfl ?_
  intro g7 x7 hi7 hb7 _
  have hc7 := below_chain hc6 hb7
  have hk7 := Ints.new hk6 hb7
  clear hc6 hk6 hi7 hb7
  simp only [Act.put, List.setIfInBounds_toArray, List.set_cons_succ, List.set_cons_zero]
  refine wpList_ints rfl rfl [7] (by decide) (by decide) rfl #[(0, .int .i64 7)] (by simp only [List.map_toArray, List.map_cons, List.map_nil]; rfl) rfl ?_
  intro g8 x8 hi8 hb8 _
  have hc8 := below_chain hc7 hb8
  have hk8 := Ints.new hk7 hb8
  clear hc7 hk7 hi8 hb8
  simp only [Act.put, List.setIfInBounds_toArray, List.set_cons_succ, List.set_cons_zero]
  refine wpList_ints rfl rfl [6, 10] (by decide) (by decide) rfl #[(0, .int .i64 6), (1, .int .i64 10)] (by simp only [List.map_toArray, List.map_cons, List.map_nil]; rfl) rfl ?_
  intro g9 x9 hi9 hb9 _
  have hc9 := below_chain hc8 hb9
  have hk9 := Ints.new hk8 hb9
  clear hc8 hk8 hi9 hb9
  simp only [Act.put, List.setIfInBounds_toArray, List.set_cons_succ, List.set_cons_zero]
  refine wpList_ints rfl rfl [1, 10] (by decide) (by decide) rfl #[(0, .int .i64 1), (1, .int .i64 10)] (by simp only [List.map_toArray, List.map_cons, List.map_nil]; rfl) rfl ?_
  intro g10 x10 hi10 hb10 _
  have hc10 := below_chain hc9 hb10
  have hk10 := Ints.new hk9 hb10
  clear hc9 hk9 hi10 hb10
  simp only [Act.put, List.setIfInBounds_toArray, List.set_cons_succ, List.set_cons_zero]
  refine wpList_ints rfl rfl [1] (by decide) (by decide) rfl #[(0, .int .i64 1)] (by simp only [List.map_toArray, List.map_cons, List.map_nil]; rfl) rfl ?_
  intro g11 x11 hi11 hb11 _
  have hc11 := below_chain hc10 hb11
  have hk11 := Ints.new hk10 hb11
  clear hc10 hk10 hi11 hb11
  simp only [Act.put, List.setIfInBounds_toArray, List.set_cons_succ, List.set_cons_zero]
  refine wpList_ints rfl rfl [2, 8] (by decide) (by decide) rfl #[(0, .int .i64 2), (1, .int .i64 8)] (by simp only [List.map_toArray, List.map_cons, List.map_nil]; rfl) rfl ?_
  intro g12 x12 hi12 hb12 _
  have hc12 := below_chain hc11 hb12
  have hk12 := Ints.new hk11 hb12
  clear hc11 hk11 hi12 hb12
  simp only [Act.put, List.setIfInBounds_toArray, List.set_cons_succ, List.set_cons_zero]
  refine wpList_ints rfl rfl [8] (by decide) (by decide) rfl #[(0, .int .i64 8)] (by simp only [List.map_toArray, List.map_cons, List.map_nil]; rfl) rfl ?_
  intro g13 x13 hi13 hb13 _
  have hc13 := below_chain hc12 hb13
  have hk13 := Ints.new hk12 hb13
  clear hc12 hk12 hi13 hb13
  simp only [Act.put, List.setIfInBounds_toArray, List.set_cons_succ, List.set_cons_zero]
  refine wpList_ints rfl rfl [2, 9] (by decide) (by decide) rfl #[(0, .int .i64 2), (1, .int .i64 9)] (by simp only [List.map_toArray, List.map_cons, List.map_nil]; rfl) rfl ?_
  intro g14 x14 hi14 hb14 _
  have hc14 := below_chain hc13 hb14
  have hk14 := Ints.new hk13 hb14
  clear hc13 hk13 hi14 hb14
  simp only [Act.put, List.setIfInBounds_toArray, List.set_cons_succ, List.set_cons_zero]
  refine wpList_ints rfl rfl [8, 9] (by decide) (by decide) rfl #[(0, .int .i64 8), (1, .int .i64 9)] (by simp only [List.map_toArray, List.map_cons, List.map_nil]; rfl) rfl ?_
  intro g15 x15 hi15 hb15 _
  have hc15 := below_chain hc14 hb15
  have hk15 := Ints.new hk14 hb15
  clear hc14 hk14 hi15 hb15
  simp only [Act.put, List.setIfInBounds_toArray, List.set_cons_succ, List.set_cons_zero]
  refine wpList_ints rfl rfl [8, 10] (by decide) (by decide) rfl #[(0, .int .i64 8), (1, .int .i64 10)] (by simp only [List.map_toArray, List.map_cons, List.map_nil]; rfl) rfl ?_
  intro g16 x16 hi16 hb16 _
  have hc16 := below_chain hc15 hb16
  have hk16 := Ints.new hk15 hb16
  clear hc15 hk15 hi16 hb16
  simp only [Act.put, List.setIfInBounds_toArray, List.set_cons_succ, List.set_cons_zero]
  refine wpList_ints rfl rfl [1, 10] (by decide) (by decide) rfl #[(0, .int .i64 1), (1, .int .i64 10)] (by simp only [List.map_toArray, List.map_cons, List.map_nil]; rfl) rfl ?_
  intro g17 x17 hi17 hb17 _
  have hc17 := below_chain hc16 hb17
  have hk17 := Ints.new hk16 hb17
  clear hc16 hk16 hi17 hb17
  simp only [Act.put, List.setIfInBounds_toArray, List.set_cons_succ, List.set_cons_zero]
  refine wpList_ints rfl rfl [1] (by decide) (by decide) rfl #[(0, .int .i64 1)] (by simp only [List.map_toArray, List.map_cons, List.map_nil]; rfl) rfl ?_
  intro g18 x18 hi18 hb18 _
  have hc18 := below_chain hc17 hb18
  have hk18 := Ints.new hk17 hb18
  clear hc17 hk17 hi18 hb18
  simp only [Act.put, List.setIfInBounds_toArray, List.set_cons_succ, List.set_cons_zero]
  refine wpList_ints rfl rfl [2, 11] (by decide) (by decide) rfl #[(0, .int .i64 2), (1, .int .i64 11)] (by simp only [List.map_toArray, List.map_cons, List.map_nil]; rfl) rfl ?_
  intro g19 x19 hi19 hb19 _
  have hc19 := below_chain hc18 hb19
  have hk19 := Ints.new hk18 hb19
  clear hc18 hk18 hi19 hb19
  simp only [Act.put, List.setIfInBounds_toArray, List.set_cons_succ, List.set_cons_zero]
  refine wpList_ints rfl rfl [11, 0] (by decide) (by decide) rfl #[(0, .int .i64 11), (1, .int .i64 0)] (by simp only [List.map_toArray, List.map_cons, List.map_nil]; rfl) rfl ?_
  intro g20 x20 hi20 hb20 _
  have hc20 := below_chain hc19 hb20
  have hk20 := Ints.new hk19 hb20
  clear hc19 hk19 hi20 hb20
  simp only [Act.put, List.setIfInBounds_toArray, List.set_cons_succ, List.set_cons_zero]
  have hix : ∀ w, (Instr.index 162 (.agg #[Value.slice none 0 0, Value.slice (some ⟨g0, 0, none⟩) 1 1, Value.slice (some ⟨g1, 0, none⟩) 1 1, Value.slice (some ⟨g2, 0, none⟩) 2 2, Value.slice (some ⟨g3, 0, none⟩) 2 2, Value.slice (some ⟨g4, 0, none⟩) 2 2, Value.slice (some ⟨g5, 0, none⟩) 1 1, Value.slice (some ⟨g6, 0, none⟩) 1 1, Value.slice (some ⟨g7, 0, none⟩) 1 1, Value.slice none 0 0, Value.slice (some ⟨g8, 0, none⟩) 1 1, Value.slice none 0 0, Value.slice (some ⟨g9, 0, none⟩) 2 2, Value.slice (some ⟨g10, 0, none⟩) 2 2, Value.slice (some ⟨g11, 0, none⟩) 1 1, Value.slice (some ⟨g12, 0, none⟩) 2 2, Value.slice (some ⟨g13, 0, none⟩) 1 1, Value.slice (some ⟨g14, 0, none⟩) 2 2, Value.slice (some ⟨g15, 0, none⟩) 2 2, Value.slice (some ⟨g16, 0, none⟩) 2 2, Value.slice (some ⟨g17, 0, none⟩) 2 2, Value.slice (some ⟨g18, 0, none⟩) 1 1, Value.slice (some ⟨g19, 0, none⟩) 2 2, Value.slice (some ⟨g20, 0, none⟩) 2 2]) (.int .i64 2)).run Try.prog w = .ok (Value.slice (some ⟨g1, 0, none⟩) 1 1) w := fun w => index_slices w _ 2 (by decide) rfl
  have c20 := (hc20.cell (block_lt_of_cell c0)).trans c0
  have hcl := clone_ints x20 _ _ hk20 (by decide)
  unfold IntsPost at hcl
  have HZ := Lib.hid (And.intro hc20 hcl)
  clear hc20 hk20 hcl c0
  go_wp2_with (go_at_call 71; (refine Calls.mono HZ.out.2 ?_); rintro e w9 ⟨A9, z9, rfl, ho9, hb9⟩; have H9 := Lib.hid (And.intro ho9 hb9); clear ho9 hb9)
  go_ret
  exact ⟨_, _, _, rfl, rfl, H9.out.1.sees, below_chain HT.out.2.2 (below_chain HZ.out.1 H9.out.2)⟩
set_option maxRecDepth 100000 in
set_option maxHeartbeats 4000000 in
theorem reads_3 (W : World) (p : Pln) (ctx K : Int) (h : Okp p ctx K) (at_ : Nat) (hat : at_ < p.places) (pos layer head row : Int) (hs : (⟨3, pos, layer, head, row⟩ : Stp.Stp) ∈ Stp.placeL p at_) :
    Calls Try.prog 37 #[.agg (planC p ctx K).toArray, .agg #[.int .i64 3, .int .i64 pos, .int .i64 layer, .int .i64 head, .int .i64 row]] W (ReadsPost W (readsL p.places ⟨3, pos, layer, head, row⟩)) := by
  obtain ⟨hb, f1, f2⟩ := h.facts
  have hpb : p.places ≤ 64 := by unfold Pln.places; omega
  have hok := ok_place hb (by omega) hs
  have hra := rat_of W p ctx K h at_ hat 3 pos layer head row hs hok.pos
  obtain ⟨w1, hw1⟩ : ∃ w1, w1 = (W.alloc (.cells (planC p ctx K).toArray 62)).alloc (.cells #[.int .i64 3, .int .i64 pos, .int .i64 layer, .int .i64 head, .int .i64 row] 69) := ⟨_, rfl⟩
  rw [← hw1] at hra
  have HW := Lib.hid hw1
  have HC := Lib.hid hra
  clear hw1 hra hs hok hb f1 f2 hpb hat
  go_enter Try.func37, Try.ntmps37
  go_upto_region 1 with fail
  rw [← HW.out]
  go_upto_region 3 with (first | (refine wpList_load_mid rfl 62 (.tmp 2) rfl W.heap.size 0 rfl (planC p ctx K) _ (rangeAt_whole HC.out.pl) Try.underlying62 rfl plan_size ?_; simp only [Act.put, List.setIfInBounds_toArray, List.set_cons_succ, List.set_cons_zero]) | (refine wpList_load_mid rfl 69 (.tmp 3) rfl (W.heap.size + 1) 0 rfl (Stp.Stp.cells ⟨3, pos, layer, head, row⟩) _ (rangeAt_whole HC.out.st) Try.underlying69 rfl step_size ?_; simp only [Act.put, List.setIfInBounds_toArray, List.set_cons_succ, List.set_cons_zero]) | (go_at_call 85; (with_reducible refine Calls.mono HC.out.has ?_); rintro e w2 ⟨rfl, hb2⟩; have HB := Lib.hid hb2; clear hb2))
  have hst2 := (HB.out.block _ (Array.getElem?_eq_some_iff.1 HC.out.st).1).trans HC.out.st
  have hpl2 := (HB.out.block _ (Array.getElem?_eq_some_iff.1 HC.out.pl).1).trans HC.out.pl
  have c0 : w2.cell? ⟨W.heap.size + 1, 0, none⟩ = some (.int .i64 3) := by rw [cell_of_row _ _ 0 _ _ _ hst2]; rfl
  have c1 : w2.cell? ⟨W.heap.size + 1, 1, none⟩ = some (.int .i64 pos) := by rw [cell_of_row _ _ 1 _ _ _ hst2]; rfl
  have c2 : w2.cell? ⟨W.heap.size + 1, 2, none⟩ = some (.int .i64 layer) := by rw [cell_of_row _ _ 2 _ _ _ hst2]; rfl
  have c4 : w2.cell? ⟨W.heap.size + 1, 4, none⟩ = some (.int .i64 row) := by rw [cell_of_row _ _ 4 _ _ _ hst2]; rfl
  have hb12 := HB.out
  have HT := Lib.hid (And.intro hst2 (And.intro hpl2 (below_chain HC.out.below HB.out)))
  clear hst2 hpl2 hb12
  go_upto_region 14 with fail
  refine wp_region_lit ?_
  clear c1 c2 c4
  refine wpList_ints rfl rfl [0] (by decide) (by decide) rfl #[(0, .int .i64 0)] (by simp only [List.map_toArray, List.map_cons, List.map_nil]; rfl) rfl ?_
  intro g0 x0 hi0 hb0 _
  have hc0 := hb0
  clear hi0 hb0
  simp only [Act.put, List.setIfInBounds_toArray, List.set_cons_succ, List.set_cons_zero]
  refine wpList_ints rfl rfl [1] (by decide) (by decide) rfl #[(0, .int .i64 1)] (by simp only [List.map_toArray, List.map_cons, List.map_nil]; rfl) rfl ?_
  intro g1 x1 hi1 hb1 _
  have hc1 := below_chain hc0 hb1
  clear hi1 hb1 hc0
  simp only [Act.put, List.setIfInBounds_toArray, List.set_cons_succ, List.set_cons_zero]
  refine wpList_ints rfl rfl [2, 3] (by decide) (by decide) rfl #[(0, .int .i64 2), (1, .int .i64 3)] (by simp only [List.map_toArray, List.map_cons, List.map_nil]; rfl) rfl ?_
  intro g2 x2 hi2 hb2 _
  have hc2 := below_chain hc1 hb2
  clear hc1
  have hk2 := hi2
  clear hi2 hb2
  simp only [Act.put, List.setIfInBounds_toArray, List.set_cons_succ, List.set_cons_zero]
  refine wpList_ints rfl rfl [2, 4] (by decide) (by decide) rfl #[(0, .int .i64 2), (1, .int .i64 4)] (by simp only [List.map_toArray, List.map_cons, List.map_nil]; rfl) rfl ?_
  intro g3 x3 hi3 hb3 _
  have hc3 := below_chain hc2 hb3
  have hk3 := Ints.new hk2 hb3
  clear hc2 hk2 hi3 hb3
  simp only [Act.put, List.setIfInBounds_toArray, List.set_cons_succ, List.set_cons_zero]
  refine wpList_ints rfl rfl [2, 5] (by decide) (by decide) rfl #[(0, .int .i64 2), (1, .int .i64 5)] (by simp only [List.map_toArray, List.map_cons, List.map_nil]; rfl) rfl ?_
  intro g4 x4 hi4 hb4 _
  have hc4 := below_chain hc3 hb4
  have hk4 := Ints.new hk3 hb4
  clear hc3 hk3 hi4 hb4
  simp only [Act.put, List.setIfInBounds_toArray, List.set_cons_succ, List.set_cons_zero]
  refine wpList_ints rfl rfl [3] (by decide) (by decide) rfl #[(0, .int .i64 3)] (by simp only [List.map_toArray, List.map_cons, List.map_nil]; rfl) rfl ?_
  intro g5 x5 hi5 hb5 _
  have hc5 := below_chain hc4 hb5
  have hk5 := Ints.new hk4 hb5
  clear hc4 hk4 hi5 hb5
  simp only [Act.put, List.setIfInBounds_toArray, List.set_cons_succ, List.set_cons_zero]
  refine wpList_ints rfl rfl [4] (by decide) (by decide) rfl #[(0, .int .i64 4)] (by simp only [List.map_toArray, List.map_cons, List.map_nil]; rfl) rfl ?_
  intro g6 x6 hi6 hb6 _
  have hc6 := below_chain hc5 hb6
  have hk6 := Ints.new hk5 hb6
  clear hc5 hk5 hi6 hb6
  simp only [Act.put, List.setIfInBounds_toArray, List.set_cons_succ, List.set_cons_zero]
  refine wpList_ints rfl rfl [5] (by decide) (by decide) rfl #[(0, .int .i64 5)] (by simp only [List.map_toArray, List.map_cons, List.map_nil]; rfl) rfl ?_
  intro g7 x7 hi7 hb7 _
  have hc7 := below_chain hc6 hb7
  have hk7 := Ints.new hk6 hb7
  clear hc6 hk6 hi7 hb7
  simp only [Act.put, List.setIfInBounds_toArray, List.set_cons_succ, List.set_cons_zero]
  refine wpList_ints rfl rfl [7] (by decide) (by decide) rfl #[(0, .int .i64 7)] (by simp only [List.map_toArray, List.map_cons, List.map_nil]; rfl) rfl ?_
  intro g8 x8 hi8 hb8 _
  have hc8 := below_chain hc7 hb8
  have hk8 := Ints.new hk7 hb8
  clear hc7 hk7 hi8 hb8
  simp only [Act.put, List.setIfInBounds_toArray, List.set_cons_succ, List.set_cons_zero]
  refine wpList_ints rfl rfl [6, 10] (by decide) (by decide) rfl #[(0, .int .i64 6), (1, .int .i64 10)] (by simp only [List.map_toArray, List.map_cons, List.map_nil]; rfl) rfl ?_
  intro g9 x9 hi9 hb9 _
  have hc9 := below_chain hc8 hb9
  have hk9 := Ints.new hk8 hb9
  clear hc8 hk8 hi9 hb9
  simp only [Act.put, List.setIfInBounds_toArray, List.set_cons_succ, List.set_cons_zero]
  refine wpList_ints rfl rfl [1, 10] (by decide) (by decide) rfl #[(0, .int .i64 1), (1, .int .i64 10)] (by simp only [List.map_toArray, List.map_cons, List.map_nil]; rfl) rfl ?_
  intro g10 x10 hi10 hb10 _
  have hc10 := below_chain hc9 hb10
  have hk10 := Ints.new hk9 hb10
  clear hc9 hk9 hi10 hb10
  simp only [Act.put, List.setIfInBounds_toArray, List.set_cons_succ, List.set_cons_zero]
  refine wpList_ints rfl rfl [1] (by decide) (by decide) rfl #[(0, .int .i64 1)] (by simp only [List.map_toArray, List.map_cons, List.map_nil]; rfl) rfl ?_
  intro g11 x11 hi11 hb11 _
  have hc11 := below_chain hc10 hb11
  have hk11 := Ints.new hk10 hb11
  clear hc10 hk10 hi11 hb11
  simp only [Act.put, List.setIfInBounds_toArray, List.set_cons_succ, List.set_cons_zero]
  refine wpList_ints rfl rfl [2, 8] (by decide) (by decide) rfl #[(0, .int .i64 2), (1, .int .i64 8)] (by simp only [List.map_toArray, List.map_cons, List.map_nil]; rfl) rfl ?_
  intro g12 x12 hi12 hb12 _
  have hc12 := below_chain hc11 hb12
  have hk12 := Ints.new hk11 hb12
  clear hc11 hk11 hi12 hb12
  simp only [Act.put, List.setIfInBounds_toArray, List.set_cons_succ, List.set_cons_zero]
  refine wpList_ints rfl rfl [8] (by decide) (by decide) rfl #[(0, .int .i64 8)] (by simp only [List.map_toArray, List.map_cons, List.map_nil]; rfl) rfl ?_
  intro g13 x13 hi13 hb13 _
  have hc13 := below_chain hc12 hb13
  have hk13 := Ints.new hk12 hb13
  clear hc12 hk12 hi13 hb13
  simp only [Act.put, List.setIfInBounds_toArray, List.set_cons_succ, List.set_cons_zero]
  refine wpList_ints rfl rfl [2, 9] (by decide) (by decide) rfl #[(0, .int .i64 2), (1, .int .i64 9)] (by simp only [List.map_toArray, List.map_cons, List.map_nil]; rfl) rfl ?_
  intro g14 x14 hi14 hb14 _
  have hc14 := below_chain hc13 hb14
  have hk14 := Ints.new hk13 hb14
  clear hc13 hk13 hi14 hb14
  simp only [Act.put, List.setIfInBounds_toArray, List.set_cons_succ, List.set_cons_zero]
  refine wpList_ints rfl rfl [8, 9] (by decide) (by decide) rfl #[(0, .int .i64 8), (1, .int .i64 9)] (by simp only [List.map_toArray, List.map_cons, List.map_nil]; rfl) rfl ?_
  intro g15 x15 hi15 hb15 _
  have hc15 := below_chain hc14 hb15
  have hk15 := Ints.new hk14 hb15
  clear hc14 hk14 hi15 hb15
  simp only [Act.put, List.setIfInBounds_toArray, List.set_cons_succ, List.set_cons_zero]
  refine wpList_ints rfl rfl [8, 10] (by decide) (by decide) rfl #[(0, .int .i64 8), (1, .int .i64 10)] (by simp only [List.map_toArray, List.map_cons, List.map_nil]; rfl) rfl ?_
  intro g16 x16 hi16 hb16 _
  have hc16 := below_chain hc15 hb16
  have hk16 := Ints.new hk15 hb16
  clear hc15 hk15 hi16 hb16
  simp only [Act.put, List.setIfInBounds_toArray, List.set_cons_succ, List.set_cons_zero]
  refine wpList_ints rfl rfl [1, 10] (by decide) (by decide) rfl #[(0, .int .i64 1), (1, .int .i64 10)] (by simp only [List.map_toArray, List.map_cons, List.map_nil]; rfl) rfl ?_
  intro g17 x17 hi17 hb17 _
  have hc17 := below_chain hc16 hb17
  have hk17 := Ints.new hk16 hb17
  clear hc16 hk16 hi17 hb17
  simp only [Act.put, List.setIfInBounds_toArray, List.set_cons_succ, List.set_cons_zero]
  refine wpList_ints rfl rfl [1] (by decide) (by decide) rfl #[(0, .int .i64 1)] (by simp only [List.map_toArray, List.map_cons, List.map_nil]; rfl) rfl ?_
  intro g18 x18 hi18 hb18 _
  have hc18 := below_chain hc17 hb18
  have hk18 := Ints.new hk17 hb18
  clear hc17 hk17 hi18 hb18
  simp only [Act.put, List.setIfInBounds_toArray, List.set_cons_succ, List.set_cons_zero]
  refine wpList_ints rfl rfl [2, 11] (by decide) (by decide) rfl #[(0, .int .i64 2), (1, .int .i64 11)] (by simp only [List.map_toArray, List.map_cons, List.map_nil]; rfl) rfl ?_
  intro g19 x19 hi19 hb19 _
  have hc19 := below_chain hc18 hb19
  have hk19 := Ints.new hk18 hb19
  clear hc18 hk18 hi19 hb19
  simp only [Act.put, List.setIfInBounds_toArray, List.set_cons_succ, List.set_cons_zero]
  refine wpList_ints rfl rfl [11, 0] (by decide) (by decide) rfl #[(0, .int .i64 11), (1, .int .i64 0)] (by simp only [List.map_toArray, List.map_cons, List.map_nil]; rfl) rfl ?_
  intro g20 x20 hi20 hb20 _
  have hc20 := below_chain hc19 hb20
  have hk20 := Ints.new hk19 hb20
  clear hc19 hk19 hi20 hb20
  simp only [Act.put, List.setIfInBounds_toArray, List.set_cons_succ, List.set_cons_zero]
  have hix : ∀ w, (Instr.index 162 (.agg #[Value.slice none 0 0, Value.slice (some ⟨g0, 0, none⟩) 1 1, Value.slice (some ⟨g1, 0, none⟩) 1 1, Value.slice (some ⟨g2, 0, none⟩) 2 2, Value.slice (some ⟨g3, 0, none⟩) 2 2, Value.slice (some ⟨g4, 0, none⟩) 2 2, Value.slice (some ⟨g5, 0, none⟩) 1 1, Value.slice (some ⟨g6, 0, none⟩) 1 1, Value.slice (some ⟨g7, 0, none⟩) 1 1, Value.slice none 0 0, Value.slice (some ⟨g8, 0, none⟩) 1 1, Value.slice none 0 0, Value.slice (some ⟨g9, 0, none⟩) 2 2, Value.slice (some ⟨g10, 0, none⟩) 2 2, Value.slice (some ⟨g11, 0, none⟩) 1 1, Value.slice (some ⟨g12, 0, none⟩) 2 2, Value.slice (some ⟨g13, 0, none⟩) 1 1, Value.slice (some ⟨g14, 0, none⟩) 2 2, Value.slice (some ⟨g15, 0, none⟩) 2 2, Value.slice (some ⟨g16, 0, none⟩) 2 2, Value.slice (some ⟨g17, 0, none⟩) 2 2, Value.slice (some ⟨g18, 0, none⟩) 1 1, Value.slice (some ⟨g19, 0, none⟩) 2 2, Value.slice (some ⟨g20, 0, none⟩) 2 2]) (.int .i64 3)).run Try.prog w = .ok (Value.slice (some ⟨g2, 0, none⟩) 2 2) w := fun w => index_slices w _ 3 (by decide) rfl
  have c20 := (hc20.cell (block_lt_of_cell c0)).trans c0
  have hcl := clone_ints x20 _ _ hk20 (by decide)
  unfold IntsPost at hcl
  have HZ := Lib.hid (And.intro hc20 hcl)
  clear hc20 hk20 hcl c0
  go_wp2_with (go_at_call 71; (refine Calls.mono HZ.out.2 ?_); rintro e w9 ⟨A9, z9, rfl, ho9, hb9⟩; have H9 := Lib.hid (And.intro ho9 hb9); clear ho9 hb9)
  go_ret
  exact ⟨_, _, _, rfl, rfl, H9.out.1.sees, below_chain HT.out.2.2 (below_chain HZ.out.1 H9.out.2)⟩
set_option maxRecDepth 100000 in
set_option maxHeartbeats 4000000 in
theorem reads_4 (W : World) (p : Pln) (ctx K : Int) (h : Okp p ctx K) (at_ : Nat) (hat : at_ < p.places) (pos layer head row : Int) (hs : (⟨4, pos, layer, head, row⟩ : Stp.Stp) ∈ Stp.placeL p at_) :
    Calls Try.prog 37 #[.agg (planC p ctx K).toArray, .agg #[.int .i64 4, .int .i64 pos, .int .i64 layer, .int .i64 head, .int .i64 row]] W (ReadsPost W (readsL p.places ⟨4, pos, layer, head, row⟩)) := by
  obtain ⟨hb, f1, f2⟩ := h.facts
  have hpb : p.places ≤ 64 := by unfold Pln.places; omega
  have hok := ok_place hb (by omega) hs
  have hra := rat_of W p ctx K h at_ hat 4 pos layer head row hs hok.pos
  obtain ⟨w1, hw1⟩ : ∃ w1, w1 = (W.alloc (.cells (planC p ctx K).toArray 62)).alloc (.cells #[.int .i64 4, .int .i64 pos, .int .i64 layer, .int .i64 head, .int .i64 row] 69) := ⟨_, rfl⟩
  rw [← hw1] at hra
  have HW := Lib.hid hw1
  have HC := Lib.hid hra
  clear hw1 hra hs hok hb f1 f2 hpb hat
  go_enter Try.func37, Try.ntmps37
  go_upto_region 1 with fail
  rw [← HW.out]
  go_upto_region 3 with (first | (refine wpList_load_mid rfl 62 (.tmp 2) rfl W.heap.size 0 rfl (planC p ctx K) _ (rangeAt_whole HC.out.pl) Try.underlying62 rfl plan_size ?_; simp only [Act.put, List.setIfInBounds_toArray, List.set_cons_succ, List.set_cons_zero]) | (refine wpList_load_mid rfl 69 (.tmp 3) rfl (W.heap.size + 1) 0 rfl (Stp.Stp.cells ⟨4, pos, layer, head, row⟩) _ (rangeAt_whole HC.out.st) Try.underlying69 rfl step_size ?_; simp only [Act.put, List.setIfInBounds_toArray, List.set_cons_succ, List.set_cons_zero]) | (go_at_call 85; (with_reducible refine Calls.mono HC.out.has ?_); rintro e w2 ⟨rfl, hb2⟩; have HB := Lib.hid hb2; clear hb2))
  have hst2 := (HB.out.block _ (Array.getElem?_eq_some_iff.1 HC.out.st).1).trans HC.out.st
  have hpl2 := (HB.out.block _ (Array.getElem?_eq_some_iff.1 HC.out.pl).1).trans HC.out.pl
  have c0 : w2.cell? ⟨W.heap.size + 1, 0, none⟩ = some (.int .i64 4) := by rw [cell_of_row _ _ 0 _ _ _ hst2]; rfl
  have c1 : w2.cell? ⟨W.heap.size + 1, 1, none⟩ = some (.int .i64 pos) := by rw [cell_of_row _ _ 1 _ _ _ hst2]; rfl
  have c2 : w2.cell? ⟨W.heap.size + 1, 2, none⟩ = some (.int .i64 layer) := by rw [cell_of_row _ _ 2 _ _ _ hst2]; rfl
  have c4 : w2.cell? ⟨W.heap.size + 1, 4, none⟩ = some (.int .i64 row) := by rw [cell_of_row _ _ 4 _ _ _ hst2]; rfl
  have hb12 := HB.out
  have HT := Lib.hid (And.intro hst2 (And.intro hpl2 (below_chain HC.out.below HB.out)))
  clear hst2 hpl2 hb12
  go_upto_region 14 with fail
  refine wp_region_lit ?_
  clear c1 c2 c4
  refine wpList_ints rfl rfl [0] (by decide) (by decide) rfl #[(0, .int .i64 0)] (by simp only [List.map_toArray, List.map_cons, List.map_nil]; rfl) rfl ?_
  intro g0 x0 hi0 hb0 _
  have hc0 := hb0
  clear hi0 hb0
  simp only [Act.put, List.setIfInBounds_toArray, List.set_cons_succ, List.set_cons_zero]
  refine wpList_ints rfl rfl [1] (by decide) (by decide) rfl #[(0, .int .i64 1)] (by simp only [List.map_toArray, List.map_cons, List.map_nil]; rfl) rfl ?_
  intro g1 x1 hi1 hb1 _
  have hc1 := below_chain hc0 hb1
  clear hi1 hb1 hc0
  simp only [Act.put, List.setIfInBounds_toArray, List.set_cons_succ, List.set_cons_zero]
  refine wpList_ints rfl rfl [2, 3] (by decide) (by decide) rfl #[(0, .int .i64 2), (1, .int .i64 3)] (by simp only [List.map_toArray, List.map_cons, List.map_nil]; rfl) rfl ?_
  intro g2 x2 hi2 hb2 _
  have hc2 := below_chain hc1 hb2
  clear hi2 hb2 hc1
  simp only [Act.put, List.setIfInBounds_toArray, List.set_cons_succ, List.set_cons_zero]
  refine wpList_ints rfl rfl [2, 4] (by decide) (by decide) rfl #[(0, .int .i64 2), (1, .int .i64 4)] (by simp only [List.map_toArray, List.map_cons, List.map_nil]; rfl) rfl ?_
  intro g3 x3 hi3 hb3 _
  have hc3 := below_chain hc2 hb3
  clear hc2
  have hk3 := hi3
  clear hi3 hb3
  simp only [Act.put, List.setIfInBounds_toArray, List.set_cons_succ, List.set_cons_zero]
  refine wpList_ints rfl rfl [2, 5] (by decide) (by decide) rfl #[(0, .int .i64 2), (1, .int .i64 5)] (by simp only [List.map_toArray, List.map_cons, List.map_nil]; rfl) rfl ?_
  intro g4 x4 hi4 hb4 _
  have hc4 := below_chain hc3 hb4
  have hk4 := Ints.new hk3 hb4
  clear hc3 hk3 hi4 hb4
  simp only [Act.put, List.setIfInBounds_toArray, List.set_cons_succ, List.set_cons_zero]
  refine wpList_ints rfl rfl [3] (by decide) (by decide) rfl #[(0, .int .i64 3)] (by simp only [List.map_toArray, List.map_cons, List.map_nil]; rfl) rfl ?_
  intro g5 x5 hi5 hb5 _
  have hc5 := below_chain hc4 hb5
  have hk5 := Ints.new hk4 hb5
  clear hc4 hk4 hi5 hb5
  simp only [Act.put, List.setIfInBounds_toArray, List.set_cons_succ, List.set_cons_zero]
  refine wpList_ints rfl rfl [4] (by decide) (by decide) rfl #[(0, .int .i64 4)] (by simp only [List.map_toArray, List.map_cons, List.map_nil]; rfl) rfl ?_
  intro g6 x6 hi6 hb6 _
  have hc6 := below_chain hc5 hb6
  have hk6 := Ints.new hk5 hb6
  clear hc5 hk5 hi6 hb6
  simp only [Act.put, List.setIfInBounds_toArray, List.set_cons_succ, List.set_cons_zero]
  refine wpList_ints rfl rfl [5] (by decide) (by decide) rfl #[(0, .int .i64 5)] (by simp only [List.map_toArray, List.map_cons, List.map_nil]; rfl) rfl ?_
  intro g7 x7 hi7 hb7 _
  have hc7 := below_chain hc6 hb7
  have hk7 := Ints.new hk6 hb7
  clear hc6 hk6 hi7 hb7
  simp only [Act.put, List.setIfInBounds_toArray, List.set_cons_succ, List.set_cons_zero]
  refine wpList_ints rfl rfl [7] (by decide) (by decide) rfl #[(0, .int .i64 7)] (by simp only [List.map_toArray, List.map_cons, List.map_nil]; rfl) rfl ?_
  intro g8 x8 hi8 hb8 _
  have hc8 := below_chain hc7 hb8
  have hk8 := Ints.new hk7 hb8
  clear hc7 hk7 hi8 hb8
  simp only [Act.put, List.setIfInBounds_toArray, List.set_cons_succ, List.set_cons_zero]
  refine wpList_ints rfl rfl [6, 10] (by decide) (by decide) rfl #[(0, .int .i64 6), (1, .int .i64 10)] (by simp only [List.map_toArray, List.map_cons, List.map_nil]; rfl) rfl ?_
  intro g9 x9 hi9 hb9 _
  have hc9 := below_chain hc8 hb9
  have hk9 := Ints.new hk8 hb9
  clear hc8 hk8 hi9 hb9
  simp only [Act.put, List.setIfInBounds_toArray, List.set_cons_succ, List.set_cons_zero]
  refine wpList_ints rfl rfl [1, 10] (by decide) (by decide) rfl #[(0, .int .i64 1), (1, .int .i64 10)] (by simp only [List.map_toArray, List.map_cons, List.map_nil]; rfl) rfl ?_
  intro g10 x10 hi10 hb10 _
  have hc10 := below_chain hc9 hb10
  have hk10 := Ints.new hk9 hb10
  clear hc9 hk9 hi10 hb10
  simp only [Act.put, List.setIfInBounds_toArray, List.set_cons_succ, List.set_cons_zero]
  refine wpList_ints rfl rfl [1] (by decide) (by decide) rfl #[(0, .int .i64 1)] (by simp only [List.map_toArray, List.map_cons, List.map_nil]; rfl) rfl ?_
  intro g11 x11 hi11 hb11 _
  have hc11 := below_chain hc10 hb11
  have hk11 := Ints.new hk10 hb11
  clear hc10 hk10 hi11 hb11
  simp only [Act.put, List.setIfInBounds_toArray, List.set_cons_succ, List.set_cons_zero]
  refine wpList_ints rfl rfl [2, 8] (by decide) (by decide) rfl #[(0, .int .i64 2), (1, .int .i64 8)] (by simp only [List.map_toArray, List.map_cons, List.map_nil]; rfl) rfl ?_
  intro g12 x12 hi12 hb12 _
  have hc12 := below_chain hc11 hb12
  have hk12 := Ints.new hk11 hb12
  clear hc11 hk11 hi12 hb12
  simp only [Act.put, List.setIfInBounds_toArray, List.set_cons_succ, List.set_cons_zero]
  refine wpList_ints rfl rfl [8] (by decide) (by decide) rfl #[(0, .int .i64 8)] (by simp only [List.map_toArray, List.map_cons, List.map_nil]; rfl) rfl ?_
  intro g13 x13 hi13 hb13 _
  have hc13 := below_chain hc12 hb13
  have hk13 := Ints.new hk12 hb13
  clear hc12 hk12 hi13 hb13
  simp only [Act.put, List.setIfInBounds_toArray, List.set_cons_succ, List.set_cons_zero]
  refine wpList_ints rfl rfl [2, 9] (by decide) (by decide) rfl #[(0, .int .i64 2), (1, .int .i64 9)] (by simp only [List.map_toArray, List.map_cons, List.map_nil]; rfl) rfl ?_
  intro g14 x14 hi14 hb14 _
  have hc14 := below_chain hc13 hb14
  have hk14 := Ints.new hk13 hb14
  clear hc13 hk13 hi14 hb14
  simp only [Act.put, List.setIfInBounds_toArray, List.set_cons_succ, List.set_cons_zero]
  refine wpList_ints rfl rfl [8, 9] (by decide) (by decide) rfl #[(0, .int .i64 8), (1, .int .i64 9)] (by simp only [List.map_toArray, List.map_cons, List.map_nil]; rfl) rfl ?_
  intro g15 x15 hi15 hb15 _
  have hc15 := below_chain hc14 hb15
  have hk15 := Ints.new hk14 hb15
  clear hc14 hk14 hi15 hb15
  simp only [Act.put, List.setIfInBounds_toArray, List.set_cons_succ, List.set_cons_zero]
  refine wpList_ints rfl rfl [8, 10] (by decide) (by decide) rfl #[(0, .int .i64 8), (1, .int .i64 10)] (by simp only [List.map_toArray, List.map_cons, List.map_nil]; rfl) rfl ?_
  intro g16 x16 hi16 hb16 _
  have hc16 := below_chain hc15 hb16
  have hk16 := Ints.new hk15 hb16
  clear hc15 hk15 hi16 hb16
  simp only [Act.put, List.setIfInBounds_toArray, List.set_cons_succ, List.set_cons_zero]
  refine wpList_ints rfl rfl [1, 10] (by decide) (by decide) rfl #[(0, .int .i64 1), (1, .int .i64 10)] (by simp only [List.map_toArray, List.map_cons, List.map_nil]; rfl) rfl ?_
  intro g17 x17 hi17 hb17 _
  have hc17 := below_chain hc16 hb17
  have hk17 := Ints.new hk16 hb17
  clear hc16 hk16 hi17 hb17
  simp only [Act.put, List.setIfInBounds_toArray, List.set_cons_succ, List.set_cons_zero]
  refine wpList_ints rfl rfl [1] (by decide) (by decide) rfl #[(0, .int .i64 1)] (by simp only [List.map_toArray, List.map_cons, List.map_nil]; rfl) rfl ?_
  intro g18 x18 hi18 hb18 _
  have hc18 := below_chain hc17 hb18
  have hk18 := Ints.new hk17 hb18
  clear hc17 hk17 hi18 hb18
  simp only [Act.put, List.setIfInBounds_toArray, List.set_cons_succ, List.set_cons_zero]
  refine wpList_ints rfl rfl [2, 11] (by decide) (by decide) rfl #[(0, .int .i64 2), (1, .int .i64 11)] (by simp only [List.map_toArray, List.map_cons, List.map_nil]; rfl) rfl ?_
  intro g19 x19 hi19 hb19 _
  have hc19 := below_chain hc18 hb19
  have hk19 := Ints.new hk18 hb19
  clear hc18 hk18 hi19 hb19
  simp only [Act.put, List.setIfInBounds_toArray, List.set_cons_succ, List.set_cons_zero]
  refine wpList_ints rfl rfl [11, 0] (by decide) (by decide) rfl #[(0, .int .i64 11), (1, .int .i64 0)] (by simp only [List.map_toArray, List.map_cons, List.map_nil]; rfl) rfl ?_
  intro g20 x20 hi20 hb20 _
  have hc20 := below_chain hc19 hb20
  have hk20 := Ints.new hk19 hb20
  clear hc19 hk19 hi20 hb20
  simp only [Act.put, List.setIfInBounds_toArray, List.set_cons_succ, List.set_cons_zero]
  have hix : ∀ w, (Instr.index 162 (.agg #[Value.slice none 0 0, Value.slice (some ⟨g0, 0, none⟩) 1 1, Value.slice (some ⟨g1, 0, none⟩) 1 1, Value.slice (some ⟨g2, 0, none⟩) 2 2, Value.slice (some ⟨g3, 0, none⟩) 2 2, Value.slice (some ⟨g4, 0, none⟩) 2 2, Value.slice (some ⟨g5, 0, none⟩) 1 1, Value.slice (some ⟨g6, 0, none⟩) 1 1, Value.slice (some ⟨g7, 0, none⟩) 1 1, Value.slice none 0 0, Value.slice (some ⟨g8, 0, none⟩) 1 1, Value.slice none 0 0, Value.slice (some ⟨g9, 0, none⟩) 2 2, Value.slice (some ⟨g10, 0, none⟩) 2 2, Value.slice (some ⟨g11, 0, none⟩) 1 1, Value.slice (some ⟨g12, 0, none⟩) 2 2, Value.slice (some ⟨g13, 0, none⟩) 1 1, Value.slice (some ⟨g14, 0, none⟩) 2 2, Value.slice (some ⟨g15, 0, none⟩) 2 2, Value.slice (some ⟨g16, 0, none⟩) 2 2, Value.slice (some ⟨g17, 0, none⟩) 2 2, Value.slice (some ⟨g18, 0, none⟩) 1 1, Value.slice (some ⟨g19, 0, none⟩) 2 2, Value.slice (some ⟨g20, 0, none⟩) 2 2]) (.int .i64 4)).run Try.prog w = .ok (Value.slice (some ⟨g3, 0, none⟩) 2 2) w := fun w => index_slices w _ 4 (by decide) rfl
  have c20 := (hc20.cell (block_lt_of_cell c0)).trans c0
  have hcl := clone_ints x20 _ _ hk20 (by decide)
  unfold IntsPost at hcl
  have HZ := Lib.hid (And.intro hc20 hcl)
  clear hc20 hk20 hcl c0
  go_wp2_with (go_at_call 71; (refine Calls.mono HZ.out.2 ?_); rintro e w9 ⟨A9, z9, rfl, ho9, hb9⟩; have H9 := Lib.hid (And.intro ho9 hb9); clear ho9 hb9)
  go_ret
  exact ⟨_, _, _, rfl, rfl, H9.out.1.sees, below_chain HT.out.2.2 (below_chain HZ.out.1 H9.out.2)⟩
set_option maxRecDepth 100000 in
set_option maxHeartbeats 4000000 in
theorem reads_5 (W : World) (p : Pln) (ctx K : Int) (h : Okp p ctx K) (at_ : Nat) (hat : at_ < p.places) (pos layer head row : Int) (hs : (⟨5, pos, layer, head, row⟩ : Stp.Stp) ∈ Stp.placeL p at_) :
    Calls Try.prog 37 #[.agg (planC p ctx K).toArray, .agg #[.int .i64 5, .int .i64 pos, .int .i64 layer, .int .i64 head, .int .i64 row]] W (ReadsPost W (readsL p.places ⟨5, pos, layer, head, row⟩)) := by
  obtain ⟨hb, f1, f2⟩ := h.facts
  have hpb : p.places ≤ 64 := by unfold Pln.places; omega
  have hok := ok_place hb (by omega) hs
  have hra := rat_of W p ctx K h at_ hat 5 pos layer head row hs hok.pos
  obtain ⟨w1, hw1⟩ : ∃ w1, w1 = (W.alloc (.cells (planC p ctx K).toArray 62)).alloc (.cells #[.int .i64 5, .int .i64 pos, .int .i64 layer, .int .i64 head, .int .i64 row] 69) := ⟨_, rfl⟩
  rw [← hw1] at hra
  have HW := Lib.hid hw1
  have HC := Lib.hid hra
  clear hw1 hra hs hok hb f1 f2 hpb hat
  go_enter Try.func37, Try.ntmps37
  go_upto_region 1 with fail
  rw [← HW.out]
  go_upto_region 3 with (first | (refine wpList_load_mid rfl 62 (.tmp 2) rfl W.heap.size 0 rfl (planC p ctx K) _ (rangeAt_whole HC.out.pl) Try.underlying62 rfl plan_size ?_; simp only [Act.put, List.setIfInBounds_toArray, List.set_cons_succ, List.set_cons_zero]) | (refine wpList_load_mid rfl 69 (.tmp 3) rfl (W.heap.size + 1) 0 rfl (Stp.Stp.cells ⟨5, pos, layer, head, row⟩) _ (rangeAt_whole HC.out.st) Try.underlying69 rfl step_size ?_; simp only [Act.put, List.setIfInBounds_toArray, List.set_cons_succ, List.set_cons_zero]) | (go_at_call 85; (with_reducible refine Calls.mono HC.out.has ?_); rintro e w2 ⟨rfl, hb2⟩; have HB := Lib.hid hb2; clear hb2))
  have hst2 := (HB.out.block _ (Array.getElem?_eq_some_iff.1 HC.out.st).1).trans HC.out.st
  have hpl2 := (HB.out.block _ (Array.getElem?_eq_some_iff.1 HC.out.pl).1).trans HC.out.pl
  have c0 : w2.cell? ⟨W.heap.size + 1, 0, none⟩ = some (.int .i64 5) := by rw [cell_of_row _ _ 0 _ _ _ hst2]; rfl
  have c1 : w2.cell? ⟨W.heap.size + 1, 1, none⟩ = some (.int .i64 pos) := by rw [cell_of_row _ _ 1 _ _ _ hst2]; rfl
  have c2 : w2.cell? ⟨W.heap.size + 1, 2, none⟩ = some (.int .i64 layer) := by rw [cell_of_row _ _ 2 _ _ _ hst2]; rfl
  have c4 : w2.cell? ⟨W.heap.size + 1, 4, none⟩ = some (.int .i64 row) := by rw [cell_of_row _ _ 4 _ _ _ hst2]; rfl
  have hb12 := HB.out
  have HT := Lib.hid (And.intro hst2 (And.intro hpl2 (below_chain HC.out.below HB.out)))
  clear hst2 hpl2 hb12
  go_upto_region 14 with fail
  refine wp_region_lit ?_
  clear c1 c2 c4
  refine wpList_ints rfl rfl [0] (by decide) (by decide) rfl #[(0, .int .i64 0)] (by simp only [List.map_toArray, List.map_cons, List.map_nil]; rfl) rfl ?_
  intro g0 x0 hi0 hb0 _
  have hc0 := hb0
  clear hi0 hb0
  simp only [Act.put, List.setIfInBounds_toArray, List.set_cons_succ, List.set_cons_zero]
  refine wpList_ints rfl rfl [1] (by decide) (by decide) rfl #[(0, .int .i64 1)] (by simp only [List.map_toArray, List.map_cons, List.map_nil]; rfl) rfl ?_
  intro g1 x1 hi1 hb1 _
  have hc1 := below_chain hc0 hb1
  clear hi1 hb1 hc0
  simp only [Act.put, List.setIfInBounds_toArray, List.set_cons_succ, List.set_cons_zero]
  refine wpList_ints rfl rfl [2, 3] (by decide) (by decide) rfl #[(0, .int .i64 2), (1, .int .i64 3)] (by simp only [List.map_toArray, List.map_cons, List.map_nil]; rfl) rfl ?_
  intro g2 x2 hi2 hb2 _
  have hc2 := below_chain hc1 hb2
  clear hi2 hb2 hc1
  simp only [Act.put, List.setIfInBounds_toArray, List.set_cons_succ, List.set_cons_zero]
  refine wpList_ints rfl rfl [2, 4] (by decide) (by decide) rfl #[(0, .int .i64 2), (1, .int .i64 4)] (by simp only [List.map_toArray, List.map_cons, List.map_nil]; rfl) rfl ?_
  intro g3 x3 hi3 hb3 _
  have hc3 := below_chain hc2 hb3
  clear hi3 hb3 hc2
  simp only [Act.put, List.setIfInBounds_toArray, List.set_cons_succ, List.set_cons_zero]
  refine wpList_ints rfl rfl [2, 5] (by decide) (by decide) rfl #[(0, .int .i64 2), (1, .int .i64 5)] (by simp only [List.map_toArray, List.map_cons, List.map_nil]; rfl) rfl ?_
  intro g4 x4 hi4 hb4 _
  have hc4 := below_chain hc3 hb4
  clear hc3
  have hk4 := hi4
  clear hi4 hb4
  simp only [Act.put, List.setIfInBounds_toArray, List.set_cons_succ, List.set_cons_zero]
  refine wpList_ints rfl rfl [3] (by decide) (by decide) rfl #[(0, .int .i64 3)] (by simp only [List.map_toArray, List.map_cons, List.map_nil]; rfl) rfl ?_
  intro g5 x5 hi5 hb5 _
  have hc5 := below_chain hc4 hb5
  have hk5 := Ints.new hk4 hb5
  clear hc4 hk4 hi5 hb5
  simp only [Act.put, List.setIfInBounds_toArray, List.set_cons_succ, List.set_cons_zero]
  refine wpList_ints rfl rfl [4] (by decide) (by decide) rfl #[(0, .int .i64 4)] (by simp only [List.map_toArray, List.map_cons, List.map_nil]; rfl) rfl ?_
  intro g6 x6 hi6 hb6 _
  have hc6 := below_chain hc5 hb6
  have hk6 := Ints.new hk5 hb6
  clear hc5 hk5 hi6 hb6
  simp only [Act.put, List.setIfInBounds_toArray, List.set_cons_succ, List.set_cons_zero]
  refine wpList_ints rfl rfl [5] (by decide) (by decide) rfl #[(0, .int .i64 5)] (by simp only [List.map_toArray, List.map_cons, List.map_nil]; rfl) rfl ?_
  intro g7 x7 hi7 hb7 _
  have hc7 := below_chain hc6 hb7
  have hk7 := Ints.new hk6 hb7
  clear hc6 hk6 hi7 hb7
  simp only [Act.put, List.setIfInBounds_toArray, List.set_cons_succ, List.set_cons_zero]
  refine wpList_ints rfl rfl [7] (by decide) (by decide) rfl #[(0, .int .i64 7)] (by simp only [List.map_toArray, List.map_cons, List.map_nil]; rfl) rfl ?_
  intro g8 x8 hi8 hb8 _
  have hc8 := below_chain hc7 hb8
  have hk8 := Ints.new hk7 hb8
  clear hc7 hk7 hi8 hb8
  simp only [Act.put, List.setIfInBounds_toArray, List.set_cons_succ, List.set_cons_zero]
  refine wpList_ints rfl rfl [6, 10] (by decide) (by decide) rfl #[(0, .int .i64 6), (1, .int .i64 10)] (by simp only [List.map_toArray, List.map_cons, List.map_nil]; rfl) rfl ?_
  intro g9 x9 hi9 hb9 _
  have hc9 := below_chain hc8 hb9
  have hk9 := Ints.new hk8 hb9
  clear hc8 hk8 hi9 hb9
  simp only [Act.put, List.setIfInBounds_toArray, List.set_cons_succ, List.set_cons_zero]
  refine wpList_ints rfl rfl [1, 10] (by decide) (by decide) rfl #[(0, .int .i64 1), (1, .int .i64 10)] (by simp only [List.map_toArray, List.map_cons, List.map_nil]; rfl) rfl ?_
  intro g10 x10 hi10 hb10 _
  have hc10 := below_chain hc9 hb10
  have hk10 := Ints.new hk9 hb10
  clear hc9 hk9 hi10 hb10
  simp only [Act.put, List.setIfInBounds_toArray, List.set_cons_succ, List.set_cons_zero]
  refine wpList_ints rfl rfl [1] (by decide) (by decide) rfl #[(0, .int .i64 1)] (by simp only [List.map_toArray, List.map_cons, List.map_nil]; rfl) rfl ?_
  intro g11 x11 hi11 hb11 _
  have hc11 := below_chain hc10 hb11
  have hk11 := Ints.new hk10 hb11
  clear hc10 hk10 hi11 hb11
  simp only [Act.put, List.setIfInBounds_toArray, List.set_cons_succ, List.set_cons_zero]
  refine wpList_ints rfl rfl [2, 8] (by decide) (by decide) rfl #[(0, .int .i64 2), (1, .int .i64 8)] (by simp only [List.map_toArray, List.map_cons, List.map_nil]; rfl) rfl ?_
  intro g12 x12 hi12 hb12 _
  have hc12 := below_chain hc11 hb12
  have hk12 := Ints.new hk11 hb12
  clear hc11 hk11 hi12 hb12
  simp only [Act.put, List.setIfInBounds_toArray, List.set_cons_succ, List.set_cons_zero]
  refine wpList_ints rfl rfl [8] (by decide) (by decide) rfl #[(0, .int .i64 8)] (by simp only [List.map_toArray, List.map_cons, List.map_nil]; rfl) rfl ?_
  intro g13 x13 hi13 hb13 _
  have hc13 := below_chain hc12 hb13
  have hk13 := Ints.new hk12 hb13
  clear hc12 hk12 hi13 hb13
  simp only [Act.put, List.setIfInBounds_toArray, List.set_cons_succ, List.set_cons_zero]
  refine wpList_ints rfl rfl [2, 9] (by decide) (by decide) rfl #[(0, .int .i64 2), (1, .int .i64 9)] (by simp only [List.map_toArray, List.map_cons, List.map_nil]; rfl) rfl ?_
  intro g14 x14 hi14 hb14 _
  have hc14 := below_chain hc13 hb14
  have hk14 := Ints.new hk13 hb14
  clear hc13 hk13 hi14 hb14
  simp only [Act.put, List.setIfInBounds_toArray, List.set_cons_succ, List.set_cons_zero]
  refine wpList_ints rfl rfl [8, 9] (by decide) (by decide) rfl #[(0, .int .i64 8), (1, .int .i64 9)] (by simp only [List.map_toArray, List.map_cons, List.map_nil]; rfl) rfl ?_
  intro g15 x15 hi15 hb15 _
  have hc15 := below_chain hc14 hb15
  have hk15 := Ints.new hk14 hb15
  clear hc14 hk14 hi15 hb15
  simp only [Act.put, List.setIfInBounds_toArray, List.set_cons_succ, List.set_cons_zero]
  refine wpList_ints rfl rfl [8, 10] (by decide) (by decide) rfl #[(0, .int .i64 8), (1, .int .i64 10)] (by simp only [List.map_toArray, List.map_cons, List.map_nil]; rfl) rfl ?_
  intro g16 x16 hi16 hb16 _
  have hc16 := below_chain hc15 hb16
  have hk16 := Ints.new hk15 hb16
  clear hc15 hk15 hi16 hb16
  simp only [Act.put, List.setIfInBounds_toArray, List.set_cons_succ, List.set_cons_zero]
  refine wpList_ints rfl rfl [1, 10] (by decide) (by decide) rfl #[(0, .int .i64 1), (1, .int .i64 10)] (by simp only [List.map_toArray, List.map_cons, List.map_nil]; rfl) rfl ?_
  intro g17 x17 hi17 hb17 _
  have hc17 := below_chain hc16 hb17
  have hk17 := Ints.new hk16 hb17
  clear hc16 hk16 hi17 hb17
  simp only [Act.put, List.setIfInBounds_toArray, List.set_cons_succ, List.set_cons_zero]
  refine wpList_ints rfl rfl [1] (by decide) (by decide) rfl #[(0, .int .i64 1)] (by simp only [List.map_toArray, List.map_cons, List.map_nil]; rfl) rfl ?_
  intro g18 x18 hi18 hb18 _
  have hc18 := below_chain hc17 hb18
  have hk18 := Ints.new hk17 hb18
  clear hc17 hk17 hi18 hb18
  simp only [Act.put, List.setIfInBounds_toArray, List.set_cons_succ, List.set_cons_zero]
  refine wpList_ints rfl rfl [2, 11] (by decide) (by decide) rfl #[(0, .int .i64 2), (1, .int .i64 11)] (by simp only [List.map_toArray, List.map_cons, List.map_nil]; rfl) rfl ?_
  intro g19 x19 hi19 hb19 _
  have hc19 := below_chain hc18 hb19
  have hk19 := Ints.new hk18 hb19
  clear hc18 hk18 hi19 hb19
  simp only [Act.put, List.setIfInBounds_toArray, List.set_cons_succ, List.set_cons_zero]
  refine wpList_ints rfl rfl [11, 0] (by decide) (by decide) rfl #[(0, .int .i64 11), (1, .int .i64 0)] (by simp only [List.map_toArray, List.map_cons, List.map_nil]; rfl) rfl ?_
  intro g20 x20 hi20 hb20 _
  have hc20 := below_chain hc19 hb20
  have hk20 := Ints.new hk19 hb20
  clear hc19 hk19 hi20 hb20
  simp only [Act.put, List.setIfInBounds_toArray, List.set_cons_succ, List.set_cons_zero]
  have hix : ∀ w, (Instr.index 162 (.agg #[Value.slice none 0 0, Value.slice (some ⟨g0, 0, none⟩) 1 1, Value.slice (some ⟨g1, 0, none⟩) 1 1, Value.slice (some ⟨g2, 0, none⟩) 2 2, Value.slice (some ⟨g3, 0, none⟩) 2 2, Value.slice (some ⟨g4, 0, none⟩) 2 2, Value.slice (some ⟨g5, 0, none⟩) 1 1, Value.slice (some ⟨g6, 0, none⟩) 1 1, Value.slice (some ⟨g7, 0, none⟩) 1 1, Value.slice none 0 0, Value.slice (some ⟨g8, 0, none⟩) 1 1, Value.slice none 0 0, Value.slice (some ⟨g9, 0, none⟩) 2 2, Value.slice (some ⟨g10, 0, none⟩) 2 2, Value.slice (some ⟨g11, 0, none⟩) 1 1, Value.slice (some ⟨g12, 0, none⟩) 2 2, Value.slice (some ⟨g13, 0, none⟩) 1 1, Value.slice (some ⟨g14, 0, none⟩) 2 2, Value.slice (some ⟨g15, 0, none⟩) 2 2, Value.slice (some ⟨g16, 0, none⟩) 2 2, Value.slice (some ⟨g17, 0, none⟩) 2 2, Value.slice (some ⟨g18, 0, none⟩) 1 1, Value.slice (some ⟨g19, 0, none⟩) 2 2, Value.slice (some ⟨g20, 0, none⟩) 2 2]) (.int .i64 5)).run Try.prog w = .ok (Value.slice (some ⟨g4, 0, none⟩) 2 2) w := fun w => index_slices w _ 5 (by decide) rfl
  have c20 := (hc20.cell (block_lt_of_cell c0)).trans c0
  have hcl := clone_ints x20 _ _ hk20 (by decide)
  unfold IntsPost at hcl
  have HZ := Lib.hid (And.intro hc20 hcl)
  clear hc20 hk20 hcl c0
  go_wp2_with (go_at_call 71; (refine Calls.mono HZ.out.2 ?_); rintro e w9 ⟨A9, z9, rfl, ho9, hb9⟩; have H9 := Lib.hid (And.intro ho9 hb9); clear ho9 hb9)
  go_ret
  exact ⟨_, _, _, rfl, rfl, H9.out.1.sees, below_chain HT.out.2.2 (below_chain HZ.out.1 H9.out.2)⟩
set_option maxRecDepth 100000 in
set_option maxHeartbeats 4000000 in
theorem reads_6 (W : World) (p : Pln) (ctx K : Int) (h : Okp p ctx K) (at_ : Nat) (hat : at_ < p.places) (pos layer head row : Int) (hs : (⟨6, pos, layer, head, row⟩ : Stp.Stp) ∈ Stp.placeL p at_) :
    Calls Try.prog 37 #[.agg (planC p ctx K).toArray, .agg #[.int .i64 6, .int .i64 pos, .int .i64 layer, .int .i64 head, .int .i64 row]] W (ReadsPost W (readsL p.places ⟨6, pos, layer, head, row⟩)) := by
  obtain ⟨hb, f1, f2⟩ := h.facts
  have hpb : p.places ≤ 64 := by unfold Pln.places; omega
  have hok := ok_place hb (by omega) hs
  have hra := rat_of W p ctx K h at_ hat 6 pos layer head row hs hok.pos
  obtain ⟨w1, hw1⟩ : ∃ w1, w1 = (W.alloc (.cells (planC p ctx K).toArray 62)).alloc (.cells #[.int .i64 6, .int .i64 pos, .int .i64 layer, .int .i64 head, .int .i64 row] 69) := ⟨_, rfl⟩
  rw [← hw1] at hra
  have HW := Lib.hid hw1
  have HC := Lib.hid hra
  clear hw1 hra hs hok hb f1 f2 hpb hat
  go_enter Try.func37, Try.ntmps37
  go_upto_region 1 with fail
  rw [← HW.out]
  go_upto_region 3 with (first | (refine wpList_load_mid rfl 62 (.tmp 2) rfl W.heap.size 0 rfl (planC p ctx K) _ (rangeAt_whole HC.out.pl) Try.underlying62 rfl plan_size ?_; simp only [Act.put, List.setIfInBounds_toArray, List.set_cons_succ, List.set_cons_zero]) | (refine wpList_load_mid rfl 69 (.tmp 3) rfl (W.heap.size + 1) 0 rfl (Stp.Stp.cells ⟨6, pos, layer, head, row⟩) _ (rangeAt_whole HC.out.st) Try.underlying69 rfl step_size ?_; simp only [Act.put, List.setIfInBounds_toArray, List.set_cons_succ, List.set_cons_zero]) | (go_at_call 85; (with_reducible refine Calls.mono HC.out.has ?_); rintro e w2 ⟨rfl, hb2⟩; have HB := Lib.hid hb2; clear hb2))
  have hst2 := (HB.out.block _ (Array.getElem?_eq_some_iff.1 HC.out.st).1).trans HC.out.st
  have hpl2 := (HB.out.block _ (Array.getElem?_eq_some_iff.1 HC.out.pl).1).trans HC.out.pl
  have c0 : w2.cell? ⟨W.heap.size + 1, 0, none⟩ = some (.int .i64 6) := by rw [cell_of_row _ _ 0 _ _ _ hst2]; rfl
  have c1 : w2.cell? ⟨W.heap.size + 1, 1, none⟩ = some (.int .i64 pos) := by rw [cell_of_row _ _ 1 _ _ _ hst2]; rfl
  have c2 : w2.cell? ⟨W.heap.size + 1, 2, none⟩ = some (.int .i64 layer) := by rw [cell_of_row _ _ 2 _ _ _ hst2]; rfl
  have c4 : w2.cell? ⟨W.heap.size + 1, 4, none⟩ = some (.int .i64 row) := by rw [cell_of_row _ _ 4 _ _ _ hst2]; rfl
  have hb12 := HB.out
  have HT := Lib.hid (And.intro hst2 (And.intro hpl2 (below_chain HC.out.below HB.out)))
  clear hst2 hpl2 hb12
  go_upto_region 14 with fail
  refine wp_region_lit ?_
  clear c1 c2 c4
  refine wpList_ints rfl rfl [0] (by decide) (by decide) rfl #[(0, .int .i64 0)] (by simp only [List.map_toArray, List.map_cons, List.map_nil]; rfl) rfl ?_
  intro g0 x0 hi0 hb0 _
  have hc0 := hb0
  clear hi0 hb0
  simp only [Act.put, List.setIfInBounds_toArray, List.set_cons_succ, List.set_cons_zero]
  refine wpList_ints rfl rfl [1] (by decide) (by decide) rfl #[(0, .int .i64 1)] (by simp only [List.map_toArray, List.map_cons, List.map_nil]; rfl) rfl ?_
  intro g1 x1 hi1 hb1 _
  have hc1 := below_chain hc0 hb1
  clear hi1 hb1 hc0
  simp only [Act.put, List.setIfInBounds_toArray, List.set_cons_succ, List.set_cons_zero]
  refine wpList_ints rfl rfl [2, 3] (by decide) (by decide) rfl #[(0, .int .i64 2), (1, .int .i64 3)] (by simp only [List.map_toArray, List.map_cons, List.map_nil]; rfl) rfl ?_
  intro g2 x2 hi2 hb2 _
  have hc2 := below_chain hc1 hb2
  clear hi2 hb2 hc1
  simp only [Act.put, List.setIfInBounds_toArray, List.set_cons_succ, List.set_cons_zero]
  refine wpList_ints rfl rfl [2, 4] (by decide) (by decide) rfl #[(0, .int .i64 2), (1, .int .i64 4)] (by simp only [List.map_toArray, List.map_cons, List.map_nil]; rfl) rfl ?_
  intro g3 x3 hi3 hb3 _
  have hc3 := below_chain hc2 hb3
  clear hi3 hb3 hc2
  simp only [Act.put, List.setIfInBounds_toArray, List.set_cons_succ, List.set_cons_zero]
  refine wpList_ints rfl rfl [2, 5] (by decide) (by decide) rfl #[(0, .int .i64 2), (1, .int .i64 5)] (by simp only [List.map_toArray, List.map_cons, List.map_nil]; rfl) rfl ?_
  intro g4 x4 hi4 hb4 _
  have hc4 := below_chain hc3 hb4
  clear hi4 hb4 hc3
  simp only [Act.put, List.setIfInBounds_toArray, List.set_cons_succ, List.set_cons_zero]
  refine wpList_ints rfl rfl [3] (by decide) (by decide) rfl #[(0, .int .i64 3)] (by simp only [List.map_toArray, List.map_cons, List.map_nil]; rfl) rfl ?_
  intro g5 x5 hi5 hb5 _
  have hc5 := below_chain hc4 hb5
  clear hc4
  have hk5 := hi5
  clear hi5 hb5
  simp only [Act.put, List.setIfInBounds_toArray, List.set_cons_succ, List.set_cons_zero]
  refine wpList_ints rfl rfl [4] (by decide) (by decide) rfl #[(0, .int .i64 4)] (by simp only [List.map_toArray, List.map_cons, List.map_nil]; rfl) rfl ?_
  intro g6 x6 hi6 hb6 _
  have hc6 := below_chain hc5 hb6
  have hk6 := Ints.new hk5 hb6
  clear hc5 hk5 hi6 hb6
  simp only [Act.put, List.setIfInBounds_toArray, List.set_cons_succ, List.set_cons_zero]
  refine wpList_ints rfl rfl [5] (by decide) (by decide) rfl #[(0, .int .i64 5)] (by simp only [List.map_toArray, List.map_cons, List.map_nil]; rfl) rfl ?_
  intro g7 x7 hi7 hb7 _
  have hc7 := below_chain hc6 hb7
  have hk7 := Ints.new hk6 hb7
  clear hc6 hk6 hi7 hb7
  simp only [Act.put, List.setIfInBounds_toArray, List.set_cons_succ, List.set_cons_zero]
  refine wpList_ints rfl rfl [7] (by decide) (by decide) rfl #[(0, .int .i64 7)] (by simp only [List.map_toArray, List.map_cons, List.map_nil]; rfl) rfl ?_
  intro g8 x8 hi8 hb8 _
  have hc8 := below_chain hc7 hb8
  have hk8 := Ints.new hk7 hb8
  clear hc7 hk7 hi8 hb8
  simp only [Act.put, List.setIfInBounds_toArray, List.set_cons_succ, List.set_cons_zero]
  refine wpList_ints rfl rfl [6, 10] (by decide) (by decide) rfl #[(0, .int .i64 6), (1, .int .i64 10)] (by simp only [List.map_toArray, List.map_cons, List.map_nil]; rfl) rfl ?_
  intro g9 x9 hi9 hb9 _
  have hc9 := below_chain hc8 hb9
  have hk9 := Ints.new hk8 hb9
  clear hc8 hk8 hi9 hb9
  simp only [Act.put, List.setIfInBounds_toArray, List.set_cons_succ, List.set_cons_zero]
  refine wpList_ints rfl rfl [1, 10] (by decide) (by decide) rfl #[(0, .int .i64 1), (1, .int .i64 10)] (by simp only [List.map_toArray, List.map_cons, List.map_nil]; rfl) rfl ?_
  intro g10 x10 hi10 hb10 _
  have hc10 := below_chain hc9 hb10
  have hk10 := Ints.new hk9 hb10
  clear hc9 hk9 hi10 hb10
  simp only [Act.put, List.setIfInBounds_toArray, List.set_cons_succ, List.set_cons_zero]
  refine wpList_ints rfl rfl [1] (by decide) (by decide) rfl #[(0, .int .i64 1)] (by simp only [List.map_toArray, List.map_cons, List.map_nil]; rfl) rfl ?_
  intro g11 x11 hi11 hb11 _
  have hc11 := below_chain hc10 hb11
  have hk11 := Ints.new hk10 hb11
  clear hc10 hk10 hi11 hb11
  simp only [Act.put, List.setIfInBounds_toArray, List.set_cons_succ, List.set_cons_zero]
  refine wpList_ints rfl rfl [2, 8] (by decide) (by decide) rfl #[(0, .int .i64 2), (1, .int .i64 8)] (by simp only [List.map_toArray, List.map_cons, List.map_nil]; rfl) rfl ?_
  intro g12 x12 hi12 hb12 _
  have hc12 := below_chain hc11 hb12
  have hk12 := Ints.new hk11 hb12
  clear hc11 hk11 hi12 hb12
  simp only [Act.put, List.setIfInBounds_toArray, List.set_cons_succ, List.set_cons_zero]
  refine wpList_ints rfl rfl [8] (by decide) (by decide) rfl #[(0, .int .i64 8)] (by simp only [List.map_toArray, List.map_cons, List.map_nil]; rfl) rfl ?_
  intro g13 x13 hi13 hb13 _
  have hc13 := below_chain hc12 hb13
  have hk13 := Ints.new hk12 hb13
  clear hc12 hk12 hi13 hb13
  simp only [Act.put, List.setIfInBounds_toArray, List.set_cons_succ, List.set_cons_zero]
  refine wpList_ints rfl rfl [2, 9] (by decide) (by decide) rfl #[(0, .int .i64 2), (1, .int .i64 9)] (by simp only [List.map_toArray, List.map_cons, List.map_nil]; rfl) rfl ?_
  intro g14 x14 hi14 hb14 _
  have hc14 := below_chain hc13 hb14
  have hk14 := Ints.new hk13 hb14
  clear hc13 hk13 hi14 hb14
  simp only [Act.put, List.setIfInBounds_toArray, List.set_cons_succ, List.set_cons_zero]
  refine wpList_ints rfl rfl [8, 9] (by decide) (by decide) rfl #[(0, .int .i64 8), (1, .int .i64 9)] (by simp only [List.map_toArray, List.map_cons, List.map_nil]; rfl) rfl ?_
  intro g15 x15 hi15 hb15 _
  have hc15 := below_chain hc14 hb15
  have hk15 := Ints.new hk14 hb15
  clear hc14 hk14 hi15 hb15
  simp only [Act.put, List.setIfInBounds_toArray, List.set_cons_succ, List.set_cons_zero]
  refine wpList_ints rfl rfl [8, 10] (by decide) (by decide) rfl #[(0, .int .i64 8), (1, .int .i64 10)] (by simp only [List.map_toArray, List.map_cons, List.map_nil]; rfl) rfl ?_
  intro g16 x16 hi16 hb16 _
  have hc16 := below_chain hc15 hb16
  have hk16 := Ints.new hk15 hb16
  clear hc15 hk15 hi16 hb16
  simp only [Act.put, List.setIfInBounds_toArray, List.set_cons_succ, List.set_cons_zero]
  refine wpList_ints rfl rfl [1, 10] (by decide) (by decide) rfl #[(0, .int .i64 1), (1, .int .i64 10)] (by simp only [List.map_toArray, List.map_cons, List.map_nil]; rfl) rfl ?_
  intro g17 x17 hi17 hb17 _
  have hc17 := below_chain hc16 hb17
  have hk17 := Ints.new hk16 hb17
  clear hc16 hk16 hi17 hb17
  simp only [Act.put, List.setIfInBounds_toArray, List.set_cons_succ, List.set_cons_zero]
  refine wpList_ints rfl rfl [1] (by decide) (by decide) rfl #[(0, .int .i64 1)] (by simp only [List.map_toArray, List.map_cons, List.map_nil]; rfl) rfl ?_
  intro g18 x18 hi18 hb18 _
  have hc18 := below_chain hc17 hb18
  have hk18 := Ints.new hk17 hb18
  clear hc17 hk17 hi18 hb18
  simp only [Act.put, List.setIfInBounds_toArray, List.set_cons_succ, List.set_cons_zero]
  refine wpList_ints rfl rfl [2, 11] (by decide) (by decide) rfl #[(0, .int .i64 2), (1, .int .i64 11)] (by simp only [List.map_toArray, List.map_cons, List.map_nil]; rfl) rfl ?_
  intro g19 x19 hi19 hb19 _
  have hc19 := below_chain hc18 hb19
  have hk19 := Ints.new hk18 hb19
  clear hc18 hk18 hi19 hb19
  simp only [Act.put, List.setIfInBounds_toArray, List.set_cons_succ, List.set_cons_zero]
  refine wpList_ints rfl rfl [11, 0] (by decide) (by decide) rfl #[(0, .int .i64 11), (1, .int .i64 0)] (by simp only [List.map_toArray, List.map_cons, List.map_nil]; rfl) rfl ?_
  intro g20 x20 hi20 hb20 _
  have hc20 := below_chain hc19 hb20
  have hk20 := Ints.new hk19 hb20
  clear hc19 hk19 hi20 hb20
  simp only [Act.put, List.setIfInBounds_toArray, List.set_cons_succ, List.set_cons_zero]
  have hix : ∀ w, (Instr.index 162 (.agg #[Value.slice none 0 0, Value.slice (some ⟨g0, 0, none⟩) 1 1, Value.slice (some ⟨g1, 0, none⟩) 1 1, Value.slice (some ⟨g2, 0, none⟩) 2 2, Value.slice (some ⟨g3, 0, none⟩) 2 2, Value.slice (some ⟨g4, 0, none⟩) 2 2, Value.slice (some ⟨g5, 0, none⟩) 1 1, Value.slice (some ⟨g6, 0, none⟩) 1 1, Value.slice (some ⟨g7, 0, none⟩) 1 1, Value.slice none 0 0, Value.slice (some ⟨g8, 0, none⟩) 1 1, Value.slice none 0 0, Value.slice (some ⟨g9, 0, none⟩) 2 2, Value.slice (some ⟨g10, 0, none⟩) 2 2, Value.slice (some ⟨g11, 0, none⟩) 1 1, Value.slice (some ⟨g12, 0, none⟩) 2 2, Value.slice (some ⟨g13, 0, none⟩) 1 1, Value.slice (some ⟨g14, 0, none⟩) 2 2, Value.slice (some ⟨g15, 0, none⟩) 2 2, Value.slice (some ⟨g16, 0, none⟩) 2 2, Value.slice (some ⟨g17, 0, none⟩) 2 2, Value.slice (some ⟨g18, 0, none⟩) 1 1, Value.slice (some ⟨g19, 0, none⟩) 2 2, Value.slice (some ⟨g20, 0, none⟩) 2 2]) (.int .i64 6)).run Try.prog w = .ok (Value.slice (some ⟨g5, 0, none⟩) 1 1) w := fun w => index_slices w _ 6 (by decide) rfl
  have c20 := (hc20.cell (block_lt_of_cell c0)).trans c0
  have hcl := clone_ints x20 _ _ hk20 (by decide)
  unfold IntsPost at hcl
  have HZ := Lib.hid (And.intro hc20 hcl)
  clear hc20 hk20 hcl c0
  go_wp2_with (go_at_call 71; (refine Calls.mono HZ.out.2 ?_); rintro e w9 ⟨A9, z9, rfl, ho9, hb9⟩; have H9 := Lib.hid (And.intro ho9 hb9); clear ho9 hb9)
  go_ret
  exact ⟨_, _, _, rfl, rfl, H9.out.1.sees, below_chain HT.out.2.2 (below_chain HZ.out.1 H9.out.2)⟩
set_option maxRecDepth 100000 in
set_option maxHeartbeats 4000000 in
theorem reads_7 (W : World) (p : Pln) (ctx K : Int) (h : Okp p ctx K) (at_ : Nat) (hat : at_ < p.places) (pos layer head row : Int) (hs : (⟨7, pos, layer, head, row⟩ : Stp.Stp) ∈ Stp.placeL p at_) :
    Calls Try.prog 37 #[.agg (planC p ctx K).toArray, .agg #[.int .i64 7, .int .i64 pos, .int .i64 layer, .int .i64 head, .int .i64 row]] W (ReadsPost W (readsL p.places ⟨7, pos, layer, head, row⟩)) := by
  obtain ⟨hb, f1, f2⟩ := h.facts
  have hpb : p.places ≤ 64 := by unfold Pln.places; omega
  have hok := ok_place hb (by omega) hs
  have hra := rat_of W p ctx K h at_ hat 7 pos layer head row hs hok.pos
  obtain ⟨w1, hw1⟩ : ∃ w1, w1 = (W.alloc (.cells (planC p ctx K).toArray 62)).alloc (.cells #[.int .i64 7, .int .i64 pos, .int .i64 layer, .int .i64 head, .int .i64 row] 69) := ⟨_, rfl⟩
  rw [← hw1] at hra
  have HW := Lib.hid hw1
  have HC := Lib.hid hra
  clear hw1 hra hs hok hb f1 f2 hpb hat
  go_enter Try.func37, Try.ntmps37
  go_upto_region 1 with fail
  rw [← HW.out]
  go_upto_region 3 with (first | (refine wpList_load_mid rfl 62 (.tmp 2) rfl W.heap.size 0 rfl (planC p ctx K) _ (rangeAt_whole HC.out.pl) Try.underlying62 rfl plan_size ?_; simp only [Act.put, List.setIfInBounds_toArray, List.set_cons_succ, List.set_cons_zero]) | (refine wpList_load_mid rfl 69 (.tmp 3) rfl (W.heap.size + 1) 0 rfl (Stp.Stp.cells ⟨7, pos, layer, head, row⟩) _ (rangeAt_whole HC.out.st) Try.underlying69 rfl step_size ?_; simp only [Act.put, List.setIfInBounds_toArray, List.set_cons_succ, List.set_cons_zero]) | (go_at_call 85; (with_reducible refine Calls.mono HC.out.has ?_); rintro e w2 ⟨rfl, hb2⟩; have HB := Lib.hid hb2; clear hb2))
  have hst2 := (HB.out.block _ (Array.getElem?_eq_some_iff.1 HC.out.st).1).trans HC.out.st
  have hpl2 := (HB.out.block _ (Array.getElem?_eq_some_iff.1 HC.out.pl).1).trans HC.out.pl
  have c0 : w2.cell? ⟨W.heap.size + 1, 0, none⟩ = some (.int .i64 7) := by rw [cell_of_row _ _ 0 _ _ _ hst2]; rfl
  have c1 : w2.cell? ⟨W.heap.size + 1, 1, none⟩ = some (.int .i64 pos) := by rw [cell_of_row _ _ 1 _ _ _ hst2]; rfl
  have c2 : w2.cell? ⟨W.heap.size + 1, 2, none⟩ = some (.int .i64 layer) := by rw [cell_of_row _ _ 2 _ _ _ hst2]; rfl
  have c4 : w2.cell? ⟨W.heap.size + 1, 4, none⟩ = some (.int .i64 row) := by rw [cell_of_row _ _ 4 _ _ _ hst2]; rfl
  have hb12 := HB.out
  have HT := Lib.hid (And.intro hst2 (And.intro hpl2 (below_chain HC.out.below HB.out)))
  clear hst2 hpl2 hb12
  go_upto_region 14 with fail
  refine wp_region_lit ?_
  clear c1 c2 c4
  refine wpList_ints rfl rfl [0] (by decide) (by decide) rfl #[(0, .int .i64 0)] (by simp only [List.map_toArray, List.map_cons, List.map_nil]; rfl) rfl ?_
  intro g0 x0 hi0 hb0 _
  have hc0 := hb0
  clear hi0 hb0
  simp only [Act.put, List.setIfInBounds_toArray, List.set_cons_succ, List.set_cons_zero]
  refine wpList_ints rfl rfl [1] (by decide) (by decide) rfl #[(0, .int .i64 1)] (by simp only [List.map_toArray, List.map_cons, List.map_nil]; rfl) rfl ?_
  intro g1 x1 hi1 hb1 _
  have hc1 := below_chain hc0 hb1
  clear hi1 hb1 hc0
  simp only [Act.put, List.setIfInBounds_toArray, List.set_cons_succ, List.set_cons_zero]
  refine wpList_ints rfl rfl [2, 3] (by decide) (by decide) rfl #[(0, .int .i64 2), (1, .int .i64 3)] (by simp only [List.map_toArray, List.map_cons, List.map_nil]; rfl) rfl ?_
  intro g2 x2 hi2 hb2 _
  have hc2 := below_chain hc1 hb2
  clear hi2 hb2 hc1
  simp only [Act.put, List.setIfInBounds_toArray, List.set_cons_succ, List.set_cons_zero]
  refine wpList_ints rfl rfl [2, 4] (by decide) (by decide) rfl #[(0, .int .i64 2), (1, .int .i64 4)] (by simp only [List.map_toArray, List.map_cons, List.map_nil]; rfl) rfl ?_
  intro g3 x3 hi3 hb3 _
  have hc3 := below_chain hc2 hb3
  clear hi3 hb3 hc2
  simp only [Act.put, List.setIfInBounds_toArray, List.set_cons_succ, List.set_cons_zero]
  refine wpList_ints rfl rfl [2, 5] (by decide) (by decide) rfl #[(0, .int .i64 2), (1, .int .i64 5)] (by simp only [List.map_toArray, List.map_cons, List.map_nil]; rfl) rfl ?_
  intro g4 x4 hi4 hb4 _
  have hc4 := below_chain hc3 hb4
  clear hi4 hb4 hc3
  simp only [Act.put, List.setIfInBounds_toArray, List.set_cons_succ, List.set_cons_zero]
  refine wpList_ints rfl rfl [3] (by decide) (by decide) rfl #[(0, .int .i64 3)] (by simp only [List.map_toArray, List.map_cons, List.map_nil]; rfl) rfl ?_
  intro g5 x5 hi5 hb5 _
  have hc5 := below_chain hc4 hb5
  clear hi5 hb5 hc4
  simp only [Act.put, List.setIfInBounds_toArray, List.set_cons_succ, List.set_cons_zero]
  refine wpList_ints rfl rfl [4] (by decide) (by decide) rfl #[(0, .int .i64 4)] (by simp only [List.map_toArray, List.map_cons, List.map_nil]; rfl) rfl ?_
  intro g6 x6 hi6 hb6 _
  have hc6 := below_chain hc5 hb6
  clear hc5
  have hk6 := hi6
  clear hi6 hb6
  simp only [Act.put, List.setIfInBounds_toArray, List.set_cons_succ, List.set_cons_zero]
  refine wpList_ints rfl rfl [5] (by decide) (by decide) rfl #[(0, .int .i64 5)] (by simp only [List.map_toArray, List.map_cons, List.map_nil]; rfl) rfl ?_
  intro g7 x7 hi7 hb7 _
  have hc7 := below_chain hc6 hb7
  have hk7 := Ints.new hk6 hb7
  clear hc6 hk6 hi7 hb7
  simp only [Act.put, List.setIfInBounds_toArray, List.set_cons_succ, List.set_cons_zero]
  refine wpList_ints rfl rfl [7] (by decide) (by decide) rfl #[(0, .int .i64 7)] (by simp only [List.map_toArray, List.map_cons, List.map_nil]; rfl) rfl ?_
  intro g8 x8 hi8 hb8 _
  have hc8 := below_chain hc7 hb8
  have hk8 := Ints.new hk7 hb8
  clear hc7 hk7 hi8 hb8
  simp only [Act.put, List.setIfInBounds_toArray, List.set_cons_succ, List.set_cons_zero]
  refine wpList_ints rfl rfl [6, 10] (by decide) (by decide) rfl #[(0, .int .i64 6), (1, .int .i64 10)] (by simp only [List.map_toArray, List.map_cons, List.map_nil]; rfl) rfl ?_
  intro g9 x9 hi9 hb9 _
  have hc9 := below_chain hc8 hb9
  have hk9 := Ints.new hk8 hb9
  clear hc8 hk8 hi9 hb9
  simp only [Act.put, List.setIfInBounds_toArray, List.set_cons_succ, List.set_cons_zero]
  refine wpList_ints rfl rfl [1, 10] (by decide) (by decide) rfl #[(0, .int .i64 1), (1, .int .i64 10)] (by simp only [List.map_toArray, List.map_cons, List.map_nil]; rfl) rfl ?_
  intro g10 x10 hi10 hb10 _
  have hc10 := below_chain hc9 hb10
  have hk10 := Ints.new hk9 hb10
  clear hc9 hk9 hi10 hb10
  simp only [Act.put, List.setIfInBounds_toArray, List.set_cons_succ, List.set_cons_zero]
  refine wpList_ints rfl rfl [1] (by decide) (by decide) rfl #[(0, .int .i64 1)] (by simp only [List.map_toArray, List.map_cons, List.map_nil]; rfl) rfl ?_
  intro g11 x11 hi11 hb11 _
  have hc11 := below_chain hc10 hb11
  have hk11 := Ints.new hk10 hb11
  clear hc10 hk10 hi11 hb11
  simp only [Act.put, List.setIfInBounds_toArray, List.set_cons_succ, List.set_cons_zero]
  refine wpList_ints rfl rfl [2, 8] (by decide) (by decide) rfl #[(0, .int .i64 2), (1, .int .i64 8)] (by simp only [List.map_toArray, List.map_cons, List.map_nil]; rfl) rfl ?_
  intro g12 x12 hi12 hb12 _
  have hc12 := below_chain hc11 hb12
  have hk12 := Ints.new hk11 hb12
  clear hc11 hk11 hi12 hb12
  simp only [Act.put, List.setIfInBounds_toArray, List.set_cons_succ, List.set_cons_zero]
  refine wpList_ints rfl rfl [8] (by decide) (by decide) rfl #[(0, .int .i64 8)] (by simp only [List.map_toArray, List.map_cons, List.map_nil]; rfl) rfl ?_
  intro g13 x13 hi13 hb13 _
  have hc13 := below_chain hc12 hb13
  have hk13 := Ints.new hk12 hb13
  clear hc12 hk12 hi13 hb13
  simp only [Act.put, List.setIfInBounds_toArray, List.set_cons_succ, List.set_cons_zero]
  refine wpList_ints rfl rfl [2, 9] (by decide) (by decide) rfl #[(0, .int .i64 2), (1, .int .i64 9)] (by simp only [List.map_toArray, List.map_cons, List.map_nil]; rfl) rfl ?_
  intro g14 x14 hi14 hb14 _
  have hc14 := below_chain hc13 hb14
  have hk14 := Ints.new hk13 hb14
  clear hc13 hk13 hi14 hb14
  simp only [Act.put, List.setIfInBounds_toArray, List.set_cons_succ, List.set_cons_zero]
  refine wpList_ints rfl rfl [8, 9] (by decide) (by decide) rfl #[(0, .int .i64 8), (1, .int .i64 9)] (by simp only [List.map_toArray, List.map_cons, List.map_nil]; rfl) rfl ?_
  intro g15 x15 hi15 hb15 _
  have hc15 := below_chain hc14 hb15
  have hk15 := Ints.new hk14 hb15
  clear hc14 hk14 hi15 hb15
  simp only [Act.put, List.setIfInBounds_toArray, List.set_cons_succ, List.set_cons_zero]
  refine wpList_ints rfl rfl [8, 10] (by decide) (by decide) rfl #[(0, .int .i64 8), (1, .int .i64 10)] (by simp only [List.map_toArray, List.map_cons, List.map_nil]; rfl) rfl ?_
  intro g16 x16 hi16 hb16 _
  have hc16 := below_chain hc15 hb16
  have hk16 := Ints.new hk15 hb16
  clear hc15 hk15 hi16 hb16
  simp only [Act.put, List.setIfInBounds_toArray, List.set_cons_succ, List.set_cons_zero]
  refine wpList_ints rfl rfl [1, 10] (by decide) (by decide) rfl #[(0, .int .i64 1), (1, .int .i64 10)] (by simp only [List.map_toArray, List.map_cons, List.map_nil]; rfl) rfl ?_
  intro g17 x17 hi17 hb17 _
  have hc17 := below_chain hc16 hb17
  have hk17 := Ints.new hk16 hb17
  clear hc16 hk16 hi17 hb17
  simp only [Act.put, List.setIfInBounds_toArray, List.set_cons_succ, List.set_cons_zero]
  refine wpList_ints rfl rfl [1] (by decide) (by decide) rfl #[(0, .int .i64 1)] (by simp only [List.map_toArray, List.map_cons, List.map_nil]; rfl) rfl ?_
  intro g18 x18 hi18 hb18 _
  have hc18 := below_chain hc17 hb18
  have hk18 := Ints.new hk17 hb18
  clear hc17 hk17 hi18 hb18
  simp only [Act.put, List.setIfInBounds_toArray, List.set_cons_succ, List.set_cons_zero]
  refine wpList_ints rfl rfl [2, 11] (by decide) (by decide) rfl #[(0, .int .i64 2), (1, .int .i64 11)] (by simp only [List.map_toArray, List.map_cons, List.map_nil]; rfl) rfl ?_
  intro g19 x19 hi19 hb19 _
  have hc19 := below_chain hc18 hb19
  have hk19 := Ints.new hk18 hb19
  clear hc18 hk18 hi19 hb19
  simp only [Act.put, List.setIfInBounds_toArray, List.set_cons_succ, List.set_cons_zero]
  refine wpList_ints rfl rfl [11, 0] (by decide) (by decide) rfl #[(0, .int .i64 11), (1, .int .i64 0)] (by simp only [List.map_toArray, List.map_cons, List.map_nil]; rfl) rfl ?_
  intro g20 x20 hi20 hb20 _
  have hc20 := below_chain hc19 hb20
  have hk20 := Ints.new hk19 hb20
  clear hc19 hk19 hi20 hb20
  simp only [Act.put, List.setIfInBounds_toArray, List.set_cons_succ, List.set_cons_zero]
  have hix : ∀ w, (Instr.index 162 (.agg #[Value.slice none 0 0, Value.slice (some ⟨g0, 0, none⟩) 1 1, Value.slice (some ⟨g1, 0, none⟩) 1 1, Value.slice (some ⟨g2, 0, none⟩) 2 2, Value.slice (some ⟨g3, 0, none⟩) 2 2, Value.slice (some ⟨g4, 0, none⟩) 2 2, Value.slice (some ⟨g5, 0, none⟩) 1 1, Value.slice (some ⟨g6, 0, none⟩) 1 1, Value.slice (some ⟨g7, 0, none⟩) 1 1, Value.slice none 0 0, Value.slice (some ⟨g8, 0, none⟩) 1 1, Value.slice none 0 0, Value.slice (some ⟨g9, 0, none⟩) 2 2, Value.slice (some ⟨g10, 0, none⟩) 2 2, Value.slice (some ⟨g11, 0, none⟩) 1 1, Value.slice (some ⟨g12, 0, none⟩) 2 2, Value.slice (some ⟨g13, 0, none⟩) 1 1, Value.slice (some ⟨g14, 0, none⟩) 2 2, Value.slice (some ⟨g15, 0, none⟩) 2 2, Value.slice (some ⟨g16, 0, none⟩) 2 2, Value.slice (some ⟨g17, 0, none⟩) 2 2, Value.slice (some ⟨g18, 0, none⟩) 1 1, Value.slice (some ⟨g19, 0, none⟩) 2 2, Value.slice (some ⟨g20, 0, none⟩) 2 2]) (.int .i64 7)).run Try.prog w = .ok (Value.slice (some ⟨g6, 0, none⟩) 1 1) w := fun w => index_slices w _ 7 (by decide) rfl
  have c20 := (hc20.cell (block_lt_of_cell c0)).trans c0
  have hcl := clone_ints x20 _ _ hk20 (by decide)
  unfold IntsPost at hcl
  have HZ := Lib.hid (And.intro hc20 hcl)
  clear hc20 hk20 hcl c0
  go_wp2_with (go_at_call 71; (refine Calls.mono HZ.out.2 ?_); rintro e w9 ⟨A9, z9, rfl, ho9, hb9⟩; have H9 := Lib.hid (And.intro ho9 hb9); clear ho9 hb9)
  go_ret
  exact ⟨_, _, _, rfl, rfl, H9.out.1.sees, below_chain HT.out.2.2 (below_chain HZ.out.1 H9.out.2)⟩
set_option maxRecDepth 100000 in
set_option maxHeartbeats 4000000 in
theorem reads_8 (W : World) (p : Pln) (ctx K : Int) (h : Okp p ctx K) (at_ : Nat) (hat : at_ < p.places) (pos layer head row : Int) (hs : (⟨8, pos, layer, head, row⟩ : Stp.Stp) ∈ Stp.placeL p at_) :
    Calls Try.prog 37 #[.agg (planC p ctx K).toArray, .agg #[.int .i64 8, .int .i64 pos, .int .i64 layer, .int .i64 head, .int .i64 row]] W (ReadsPost W (readsL p.places ⟨8, pos, layer, head, row⟩)) := by
  obtain ⟨hb, f1, f2⟩ := h.facts
  have hpb : p.places ≤ 64 := by unfold Pln.places; omega
  have hok := ok_place hb (by omega) hs
  have hra := rat_of W p ctx K h at_ hat 8 pos layer head row hs hok.pos
  obtain ⟨w1, hw1⟩ : ∃ w1, w1 = (W.alloc (.cells (planC p ctx K).toArray 62)).alloc (.cells #[.int .i64 8, .int .i64 pos, .int .i64 layer, .int .i64 head, .int .i64 row] 69) := ⟨_, rfl⟩
  rw [← hw1] at hra
  have HW := Lib.hid hw1
  have HC := Lib.hid hra
  clear hw1 hra hs hok hb f1 f2 hpb hat
  go_enter Try.func37, Try.ntmps37
  go_upto_region 1 with fail
  rw [← HW.out]
  go_upto_region 3 with (first | (refine wpList_load_mid rfl 62 (.tmp 2) rfl W.heap.size 0 rfl (planC p ctx K) _ (rangeAt_whole HC.out.pl) Try.underlying62 rfl plan_size ?_; simp only [Act.put, List.setIfInBounds_toArray, List.set_cons_succ, List.set_cons_zero]) | (refine wpList_load_mid rfl 69 (.tmp 3) rfl (W.heap.size + 1) 0 rfl (Stp.Stp.cells ⟨8, pos, layer, head, row⟩) _ (rangeAt_whole HC.out.st) Try.underlying69 rfl step_size ?_; simp only [Act.put, List.setIfInBounds_toArray, List.set_cons_succ, List.set_cons_zero]) | (go_at_call 85; (with_reducible refine Calls.mono HC.out.has ?_); rintro e w2 ⟨rfl, hb2⟩; have HB := Lib.hid hb2; clear hb2))
  have hst2 := (HB.out.block _ (Array.getElem?_eq_some_iff.1 HC.out.st).1).trans HC.out.st
  have hpl2 := (HB.out.block _ (Array.getElem?_eq_some_iff.1 HC.out.pl).1).trans HC.out.pl
  have c0 : w2.cell? ⟨W.heap.size + 1, 0, none⟩ = some (.int .i64 8) := by rw [cell_of_row _ _ 0 _ _ _ hst2]; rfl
  have c1 : w2.cell? ⟨W.heap.size + 1, 1, none⟩ = some (.int .i64 pos) := by rw [cell_of_row _ _ 1 _ _ _ hst2]; rfl
  have c2 : w2.cell? ⟨W.heap.size + 1, 2, none⟩ = some (.int .i64 layer) := by rw [cell_of_row _ _ 2 _ _ _ hst2]; rfl
  have c4 : w2.cell? ⟨W.heap.size + 1, 4, none⟩ = some (.int .i64 row) := by rw [cell_of_row _ _ 4 _ _ _ hst2]; rfl
  have hb12 := HB.out
  have HT := Lib.hid (And.intro hst2 (And.intro hpl2 (below_chain HC.out.below HB.out)))
  clear hst2 hpl2 hb12
  go_upto_region 14 with fail
  refine wp_region_lit ?_
  clear c1 c2 c4
  refine wpList_ints rfl rfl [0] (by decide) (by decide) rfl #[(0, .int .i64 0)] (by simp only [List.map_toArray, List.map_cons, List.map_nil]; rfl) rfl ?_
  intro g0 x0 hi0 hb0 _
  have hc0 := hb0
  clear hi0 hb0
  simp only [Act.put, List.setIfInBounds_toArray, List.set_cons_succ, List.set_cons_zero]
  refine wpList_ints rfl rfl [1] (by decide) (by decide) rfl #[(0, .int .i64 1)] (by simp only [List.map_toArray, List.map_cons, List.map_nil]; rfl) rfl ?_
  intro g1 x1 hi1 hb1 _
  have hc1 := below_chain hc0 hb1
  clear hi1 hb1 hc0
  simp only [Act.put, List.setIfInBounds_toArray, List.set_cons_succ, List.set_cons_zero]
  refine wpList_ints rfl rfl [2, 3] (by decide) (by decide) rfl #[(0, .int .i64 2), (1, .int .i64 3)] (by simp only [List.map_toArray, List.map_cons, List.map_nil]; rfl) rfl ?_
  intro g2 x2 hi2 hb2 _
  have hc2 := below_chain hc1 hb2
  clear hi2 hb2 hc1
  simp only [Act.put, List.setIfInBounds_toArray, List.set_cons_succ, List.set_cons_zero]
  refine wpList_ints rfl rfl [2, 4] (by decide) (by decide) rfl #[(0, .int .i64 2), (1, .int .i64 4)] (by simp only [List.map_toArray, List.map_cons, List.map_nil]; rfl) rfl ?_
  intro g3 x3 hi3 hb3 _
  have hc3 := below_chain hc2 hb3
  clear hi3 hb3 hc2
  simp only [Act.put, List.setIfInBounds_toArray, List.set_cons_succ, List.set_cons_zero]
  refine wpList_ints rfl rfl [2, 5] (by decide) (by decide) rfl #[(0, .int .i64 2), (1, .int .i64 5)] (by simp only [List.map_toArray, List.map_cons, List.map_nil]; rfl) rfl ?_
  intro g4 x4 hi4 hb4 _
  have hc4 := below_chain hc3 hb4
  clear hi4 hb4 hc3
  simp only [Act.put, List.setIfInBounds_toArray, List.set_cons_succ, List.set_cons_zero]
  refine wpList_ints rfl rfl [3] (by decide) (by decide) rfl #[(0, .int .i64 3)] (by simp only [List.map_toArray, List.map_cons, List.map_nil]; rfl) rfl ?_
  intro g5 x5 hi5 hb5 _
  have hc5 := below_chain hc4 hb5
  clear hi5 hb5 hc4
  simp only [Act.put, List.setIfInBounds_toArray, List.set_cons_succ, List.set_cons_zero]
  refine wpList_ints rfl rfl [4] (by decide) (by decide) rfl #[(0, .int .i64 4)] (by simp only [List.map_toArray, List.map_cons, List.map_nil]; rfl) rfl ?_
  intro g6 x6 hi6 hb6 _
  have hc6 := below_chain hc5 hb6
  clear hi6 hb6 hc5
  simp only [Act.put, List.setIfInBounds_toArray, List.set_cons_succ, List.set_cons_zero]
  refine wpList_ints rfl rfl [5] (by decide) (by decide) rfl #[(0, .int .i64 5)] (by simp only [List.map_toArray, List.map_cons, List.map_nil]; rfl) rfl ?_
  intro g7 x7 hi7 hb7 _
  have hc7 := below_chain hc6 hb7
  clear hc6
  have hk7 := hi7
  clear hi7 hb7
  simp only [Act.put, List.setIfInBounds_toArray, List.set_cons_succ, List.set_cons_zero]
  refine wpList_ints rfl rfl [7] (by decide) (by decide) rfl #[(0, .int .i64 7)] (by simp only [List.map_toArray, List.map_cons, List.map_nil]; rfl) rfl ?_
  intro g8 x8 hi8 hb8 _
  have hc8 := below_chain hc7 hb8
  have hk8 := Ints.new hk7 hb8
  clear hc7 hk7 hi8 hb8
  simp only [Act.put, List.setIfInBounds_toArray, List.set_cons_succ, List.set_cons_zero]
  refine wpList_ints rfl rfl [6, 10] (by decide) (by decide) rfl #[(0, .int .i64 6), (1, .int .i64 10)] (by simp only [List.map_toArray, List.map_cons, List.map_nil]; rfl) rfl ?_
  intro g9 x9 hi9 hb9 _
  have hc9 := below_chain hc8 hb9
  have hk9 := Ints.new hk8 hb9
  clear hc8 hk8 hi9 hb9
  simp only [Act.put, List.setIfInBounds_toArray, List.set_cons_succ, List.set_cons_zero]
  refine wpList_ints rfl rfl [1, 10] (by decide) (by decide) rfl #[(0, .int .i64 1), (1, .int .i64 10)] (by simp only [List.map_toArray, List.map_cons, List.map_nil]; rfl) rfl ?_
  intro g10 x10 hi10 hb10 _
  have hc10 := below_chain hc9 hb10
  have hk10 := Ints.new hk9 hb10
  clear hc9 hk9 hi10 hb10
  simp only [Act.put, List.setIfInBounds_toArray, List.set_cons_succ, List.set_cons_zero]
  refine wpList_ints rfl rfl [1] (by decide) (by decide) rfl #[(0, .int .i64 1)] (by simp only [List.map_toArray, List.map_cons, List.map_nil]; rfl) rfl ?_
  intro g11 x11 hi11 hb11 _
  have hc11 := below_chain hc10 hb11
  have hk11 := Ints.new hk10 hb11
  clear hc10 hk10 hi11 hb11
  simp only [Act.put, List.setIfInBounds_toArray, List.set_cons_succ, List.set_cons_zero]
  refine wpList_ints rfl rfl [2, 8] (by decide) (by decide) rfl #[(0, .int .i64 2), (1, .int .i64 8)] (by simp only [List.map_toArray, List.map_cons, List.map_nil]; rfl) rfl ?_
  intro g12 x12 hi12 hb12 _
  have hc12 := below_chain hc11 hb12
  have hk12 := Ints.new hk11 hb12
  clear hc11 hk11 hi12 hb12
  simp only [Act.put, List.setIfInBounds_toArray, List.set_cons_succ, List.set_cons_zero]
  refine wpList_ints rfl rfl [8] (by decide) (by decide) rfl #[(0, .int .i64 8)] (by simp only [List.map_toArray, List.map_cons, List.map_nil]; rfl) rfl ?_
  intro g13 x13 hi13 hb13 _
  have hc13 := below_chain hc12 hb13
  have hk13 := Ints.new hk12 hb13
  clear hc12 hk12 hi13 hb13
  simp only [Act.put, List.setIfInBounds_toArray, List.set_cons_succ, List.set_cons_zero]
  refine wpList_ints rfl rfl [2, 9] (by decide) (by decide) rfl #[(0, .int .i64 2), (1, .int .i64 9)] (by simp only [List.map_toArray, List.map_cons, List.map_nil]; rfl) rfl ?_
  intro g14 x14 hi14 hb14 _
  have hc14 := below_chain hc13 hb14
  have hk14 := Ints.new hk13 hb14
  clear hc13 hk13 hi14 hb14
  simp only [Act.put, List.setIfInBounds_toArray, List.set_cons_succ, List.set_cons_zero]
  refine wpList_ints rfl rfl [8, 9] (by decide) (by decide) rfl #[(0, .int .i64 8), (1, .int .i64 9)] (by simp only [List.map_toArray, List.map_cons, List.map_nil]; rfl) rfl ?_
  intro g15 x15 hi15 hb15 _
  have hc15 := below_chain hc14 hb15
  have hk15 := Ints.new hk14 hb15
  clear hc14 hk14 hi15 hb15
  simp only [Act.put, List.setIfInBounds_toArray, List.set_cons_succ, List.set_cons_zero]
  refine wpList_ints rfl rfl [8, 10] (by decide) (by decide) rfl #[(0, .int .i64 8), (1, .int .i64 10)] (by simp only [List.map_toArray, List.map_cons, List.map_nil]; rfl) rfl ?_
  intro g16 x16 hi16 hb16 _
  have hc16 := below_chain hc15 hb16
  have hk16 := Ints.new hk15 hb16
  clear hc15 hk15 hi16 hb16
  simp only [Act.put, List.setIfInBounds_toArray, List.set_cons_succ, List.set_cons_zero]
  refine wpList_ints rfl rfl [1, 10] (by decide) (by decide) rfl #[(0, .int .i64 1), (1, .int .i64 10)] (by simp only [List.map_toArray, List.map_cons, List.map_nil]; rfl) rfl ?_
  intro g17 x17 hi17 hb17 _
  have hc17 := below_chain hc16 hb17
  have hk17 := Ints.new hk16 hb17
  clear hc16 hk16 hi17 hb17
  simp only [Act.put, List.setIfInBounds_toArray, List.set_cons_succ, List.set_cons_zero]
  refine wpList_ints rfl rfl [1] (by decide) (by decide) rfl #[(0, .int .i64 1)] (by simp only [List.map_toArray, List.map_cons, List.map_nil]; rfl) rfl ?_
  intro g18 x18 hi18 hb18 _
  have hc18 := below_chain hc17 hb18
  have hk18 := Ints.new hk17 hb18
  clear hc17 hk17 hi18 hb18
  simp only [Act.put, List.setIfInBounds_toArray, List.set_cons_succ, List.set_cons_zero]
  refine wpList_ints rfl rfl [2, 11] (by decide) (by decide) rfl #[(0, .int .i64 2), (1, .int .i64 11)] (by simp only [List.map_toArray, List.map_cons, List.map_nil]; rfl) rfl ?_
  intro g19 x19 hi19 hb19 _
  have hc19 := below_chain hc18 hb19
  have hk19 := Ints.new hk18 hb19
  clear hc18 hk18 hi19 hb19
  simp only [Act.put, List.setIfInBounds_toArray, List.set_cons_succ, List.set_cons_zero]
  refine wpList_ints rfl rfl [11, 0] (by decide) (by decide) rfl #[(0, .int .i64 11), (1, .int .i64 0)] (by simp only [List.map_toArray, List.map_cons, List.map_nil]; rfl) rfl ?_
  intro g20 x20 hi20 hb20 _
  have hc20 := below_chain hc19 hb20
  have hk20 := Ints.new hk19 hb20
  clear hc19 hk19 hi20 hb20
  simp only [Act.put, List.setIfInBounds_toArray, List.set_cons_succ, List.set_cons_zero]
  have hix : ∀ w, (Instr.index 162 (.agg #[Value.slice none 0 0, Value.slice (some ⟨g0, 0, none⟩) 1 1, Value.slice (some ⟨g1, 0, none⟩) 1 1, Value.slice (some ⟨g2, 0, none⟩) 2 2, Value.slice (some ⟨g3, 0, none⟩) 2 2, Value.slice (some ⟨g4, 0, none⟩) 2 2, Value.slice (some ⟨g5, 0, none⟩) 1 1, Value.slice (some ⟨g6, 0, none⟩) 1 1, Value.slice (some ⟨g7, 0, none⟩) 1 1, Value.slice none 0 0, Value.slice (some ⟨g8, 0, none⟩) 1 1, Value.slice none 0 0, Value.slice (some ⟨g9, 0, none⟩) 2 2, Value.slice (some ⟨g10, 0, none⟩) 2 2, Value.slice (some ⟨g11, 0, none⟩) 1 1, Value.slice (some ⟨g12, 0, none⟩) 2 2, Value.slice (some ⟨g13, 0, none⟩) 1 1, Value.slice (some ⟨g14, 0, none⟩) 2 2, Value.slice (some ⟨g15, 0, none⟩) 2 2, Value.slice (some ⟨g16, 0, none⟩) 2 2, Value.slice (some ⟨g17, 0, none⟩) 2 2, Value.slice (some ⟨g18, 0, none⟩) 1 1, Value.slice (some ⟨g19, 0, none⟩) 2 2, Value.slice (some ⟨g20, 0, none⟩) 2 2]) (.int .i64 8)).run Try.prog w = .ok (Value.slice (some ⟨g7, 0, none⟩) 1 1) w := fun w => index_slices w _ 8 (by decide) rfl
  have c20 := (hc20.cell (block_lt_of_cell c0)).trans c0
  have hcl := clone_ints x20 _ _ hk20 (by decide)
  unfold IntsPost at hcl
  have HZ := Lib.hid (And.intro hc20 hcl)
  clear hc20 hk20 hcl c0
  go_wp2_with (go_at_call 71; (refine Calls.mono HZ.out.2 ?_); rintro e w9 ⟨A9, z9, rfl, ho9, hb9⟩; have H9 := Lib.hid (And.intro ho9 hb9); clear ho9 hb9)
  go_ret
  exact ⟨_, _, _, rfl, rfl, H9.out.1.sees, below_chain HT.out.2.2 (below_chain HZ.out.1 H9.out.2)⟩
set_option maxRecDepth 100000 in
set_option maxHeartbeats 4000000 in
theorem reads_9 (W : World) (p : Pln) (ctx K : Int) (h : Okp p ctx K) (at_ : Nat) (hat : at_ < p.places) (pos layer head row : Int) (hs : (⟨9, pos, layer, head, row⟩ : Stp.Stp) ∈ Stp.placeL p at_) :
    Calls Try.prog 37 #[.agg (planC p ctx K).toArray, .agg #[.int .i64 9, .int .i64 pos, .int .i64 layer, .int .i64 head, .int .i64 row]] W (ReadsPost W (readsL p.places ⟨9, pos, layer, head, row⟩)) := by
  obtain ⟨hb, f1, f2⟩ := h.facts
  have hpb : p.places ≤ 64 := by unfold Pln.places; omega
  have hok := ok_place hb (by omega) hs
  have hra := rat_of W p ctx K h at_ hat 9 pos layer head row hs hok.pos
  obtain ⟨w1, hw1⟩ : ∃ w1, w1 = (W.alloc (.cells (planC p ctx K).toArray 62)).alloc (.cells #[.int .i64 9, .int .i64 pos, .int .i64 layer, .int .i64 head, .int .i64 row] 69) := ⟨_, rfl⟩
  rw [← hw1] at hra
  obtain ⟨kv, hkv⟩ : ∃ kv, kv = keyV p.places layer row := ⟨_, rfl⟩
  have hky := fun w => key_any w p ctx K h layer row hok.layer hok.row
  rw [← hkv] at hky
  have hrl : readsL p.places ⟨9, pos, layer, head, row⟩ = [3, kv, 7] := by rw [hkv]; rfl
  rw [hrl]
  have HK := Lib.hid hky
  clear hky hkv hrl
  have HW := Lib.hid hw1
  have HC := Lib.hid hra
  clear hw1 hra hs hok hb f1 f2 hpb hat
  go_enter Try.func37, Try.ntmps37
  go_upto_region 1 with fail
  rw [← HW.out]
  go_upto_region 3 with (first | (refine wpList_load_mid rfl 62 (.tmp 2) rfl W.heap.size 0 rfl (planC p ctx K) _ (rangeAt_whole HC.out.pl) Try.underlying62 rfl plan_size ?_; simp only [Act.put, List.setIfInBounds_toArray, List.set_cons_succ, List.set_cons_zero]) | (refine wpList_load_mid rfl 69 (.tmp 3) rfl (W.heap.size + 1) 0 rfl (Stp.Stp.cells ⟨9, pos, layer, head, row⟩) _ (rangeAt_whole HC.out.st) Try.underlying69 rfl step_size ?_; simp only [Act.put, List.setIfInBounds_toArray, List.set_cons_succ, List.set_cons_zero]) | (go_at_call 85; (with_reducible refine Calls.mono HC.out.has ?_); rintro e w2 ⟨rfl, hb2⟩; have HB := Lib.hid hb2; clear hb2))
  have hst2 := (HB.out.block _ (Array.getElem?_eq_some_iff.1 HC.out.st).1).trans HC.out.st
  have hpl2 := (HB.out.block _ (Array.getElem?_eq_some_iff.1 HC.out.pl).1).trans HC.out.pl
  have c0 : w2.cell? ⟨W.heap.size + 1, 0, none⟩ = some (.int .i64 9) := by rw [cell_of_row _ _ 0 _ _ _ hst2]; rfl
  have c1 : w2.cell? ⟨W.heap.size + 1, 1, none⟩ = some (.int .i64 pos) := by rw [cell_of_row _ _ 1 _ _ _ hst2]; rfl
  have c2 : w2.cell? ⟨W.heap.size + 1, 2, none⟩ = some (.int .i64 layer) := by rw [cell_of_row _ _ 2 _ _ _ hst2]; rfl
  have c4 : w2.cell? ⟨W.heap.size + 1, 4, none⟩ = some (.int .i64 row) := by rw [cell_of_row _ _ 4 _ _ _ hst2]; rfl
  have hb12 := HB.out
  have HT := Lib.hid (And.intro hst2 (And.intro hpl2 (below_chain HC.out.below HB.out)))
  clear hst2 hpl2 hb12
  go_wp2_with (first | (refine wpList_load_mid rfl 62 (.tmp 2) rfl W.heap.size 0 rfl (planC p ctx K) _ (rangeAt_whole HT.out.2.1) Try.underlying62 rfl plan_size ?_; simp only [Act.put, List.setIfInBounds_toArray, List.set_cons_succ, List.set_cons_zero]) | (go_at_call 86; (with_reducible refine Calls.mono (HK.out w2) ?_); rintro e w3 ⟨rfl, hb3⟩; have H3 := Lib.hid hb3; clear hb3))
  go_ret
  exact ⟨_, _, _, rfl, rfl, ints_block (ks := [3, kv, 7]) (heap_alloc_new w3 _) 3 rfl (by simp), below_chain HT.out.2.2 (below_chain H3.out ((Below.refl _ _).alloc (Nat.le_refl _) _))⟩
set_option maxRecDepth 100000 in
set_option maxHeartbeats 4000000 in
theorem reads_10 (W : World) (p : Pln) (ctx K : Int) (h : Okp p ctx K) (at_ : Nat) (hat : at_ < p.places) (pos layer head row : Int) (hs : (⟨10, pos, layer, head, row⟩ : Stp.Stp) ∈ Stp.placeL p at_) :
    Calls Try.prog 37 #[.agg (planC p ctx K).toArray, .agg #[.int .i64 10, .int .i64 pos, .int .i64 layer, .int .i64 head, .int .i64 row]] W (ReadsPost W (readsL p.places ⟨10, pos, layer, head, row⟩)) := by
  obtain ⟨hb, f1, f2⟩ := h.facts
  have hpb : p.places ≤ 64 := by unfold Pln.places; omega
  have hok := ok_place hb (by omega) hs
  have hra := rat_of W p ctx K h at_ hat 10 pos layer head row hs hok.pos
  obtain ⟨w1, hw1⟩ : ∃ w1, w1 = (W.alloc (.cells (planC p ctx K).toArray 62)).alloc (.cells #[.int .i64 10, .int .i64 pos, .int .i64 layer, .int .i64 head, .int .i64 row] 69) := ⟨_, rfl⟩
  rw [← hw1] at hra
  have HW := Lib.hid hw1
  have HC := Lib.hid hra
  clear hw1 hra hs hok hb f1 f2 hpb hat
  go_enter Try.func37, Try.ntmps37
  go_upto_region 1 with fail
  rw [← HW.out]
  go_upto_region 3 with (first | (refine wpList_load_mid rfl 62 (.tmp 2) rfl W.heap.size 0 rfl (planC p ctx K) _ (rangeAt_whole HC.out.pl) Try.underlying62 rfl plan_size ?_; simp only [Act.put, List.setIfInBounds_toArray, List.set_cons_succ, List.set_cons_zero]) | (refine wpList_load_mid rfl 69 (.tmp 3) rfl (W.heap.size + 1) 0 rfl (Stp.Stp.cells ⟨10, pos, layer, head, row⟩) _ (rangeAt_whole HC.out.st) Try.underlying69 rfl step_size ?_; simp only [Act.put, List.setIfInBounds_toArray, List.set_cons_succ, List.set_cons_zero]) | (go_at_call 85; (with_reducible refine Calls.mono HC.out.has ?_); rintro e w2 ⟨rfl, hb2⟩; have HB := Lib.hid hb2; clear hb2))
  have hst2 := (HB.out.block _ (Array.getElem?_eq_some_iff.1 HC.out.st).1).trans HC.out.st
  have hpl2 := (HB.out.block _ (Array.getElem?_eq_some_iff.1 HC.out.pl).1).trans HC.out.pl
  have c0 : w2.cell? ⟨W.heap.size + 1, 0, none⟩ = some (.int .i64 10) := by rw [cell_of_row _ _ 0 _ _ _ hst2]; rfl
  have c1 : w2.cell? ⟨W.heap.size + 1, 1, none⟩ = some (.int .i64 pos) := by rw [cell_of_row _ _ 1 _ _ _ hst2]; rfl
  have c2 : w2.cell? ⟨W.heap.size + 1, 2, none⟩ = some (.int .i64 layer) := by rw [cell_of_row _ _ 2 _ _ _ hst2]; rfl
  have c4 : w2.cell? ⟨W.heap.size + 1, 4, none⟩ = some (.int .i64 row) := by rw [cell_of_row _ _ 4 _ _ _ hst2]; rfl
  have hb12 := HB.out
  have HT := Lib.hid (And.intro hst2 (And.intro hpl2 (below_chain HC.out.below HB.out)))
  clear hst2 hpl2 hb12
  go_upto_region 14 with fail
  refine wp_region_lit ?_
  clear c1 c2 c4
  refine wpList_ints rfl rfl [0] (by decide) (by decide) rfl #[(0, .int .i64 0)] (by simp only [List.map_toArray, List.map_cons, List.map_nil]; rfl) rfl ?_
  intro g0 x0 hi0 hb0 _
  have hc0 := hb0
  clear hi0 hb0
  simp only [Act.put, List.setIfInBounds_toArray, List.set_cons_succ, List.set_cons_zero]
  refine wpList_ints rfl rfl [1] (by decide) (by decide) rfl #[(0, .int .i64 1)] (by simp only [List.map_toArray, List.map_cons, List.map_nil]; rfl) rfl ?_
  intro g1 x1 hi1 hb1 _
  have hc1 := below_chain hc0 hb1
  clear hi1 hb1 hc0
  simp only [Act.put, List.setIfInBounds_toArray, List.set_cons_succ, List.set_cons_zero]
  refine wpList_ints rfl rfl [2, 3] (by decide) (by decide) rfl #[(0, .int .i64 2), (1, .int .i64 3)] (by simp only [List.map_toArray, List.map_cons, List.map_nil]; rfl) rfl ?_
  intro g2 x2 hi2 hb2 _
  have hc2 := below_chain hc1 hb2
  clear hi2 hb2 hc1
  simp only [Act.put, List.setIfInBounds_toArray, List.set_cons_succ, List.set_cons_zero]
  refine wpList_ints rfl rfl [2, 4] (by decide) (by decide) rfl #[(0, .int .i64 2), (1, .int .i64 4)] (by simp only [List.map_toArray, List.map_cons, List.map_nil]; rfl) rfl ?_
  intro g3 x3 hi3 hb3 _
  have hc3 := below_chain hc2 hb3
  clear hi3 hb3 hc2
  simp only [Act.put, List.setIfInBounds_toArray, List.set_cons_succ, List.set_cons_zero]
  refine wpList_ints rfl rfl [2, 5] (by decide) (by decide) rfl #[(0, .int .i64 2), (1, .int .i64 5)] (by simp only [List.map_toArray, List.map_cons, List.map_nil]; rfl) rfl ?_
  intro g4 x4 hi4 hb4 _
  have hc4 := below_chain hc3 hb4
  clear hi4 hb4 hc3
  simp only [Act.put, List.setIfInBounds_toArray, List.set_cons_succ, List.set_cons_zero]
  refine wpList_ints rfl rfl [3] (by decide) (by decide) rfl #[(0, .int .i64 3)] (by simp only [List.map_toArray, List.map_cons, List.map_nil]; rfl) rfl ?_
  intro g5 x5 hi5 hb5 _
  have hc5 := below_chain hc4 hb5
  clear hi5 hb5 hc4
  simp only [Act.put, List.setIfInBounds_toArray, List.set_cons_succ, List.set_cons_zero]
  refine wpList_ints rfl rfl [4] (by decide) (by decide) rfl #[(0, .int .i64 4)] (by simp only [List.map_toArray, List.map_cons, List.map_nil]; rfl) rfl ?_
  intro g6 x6 hi6 hb6 _
  have hc6 := below_chain hc5 hb6
  clear hi6 hb6 hc5
  simp only [Act.put, List.setIfInBounds_toArray, List.set_cons_succ, List.set_cons_zero]
  refine wpList_ints rfl rfl [5] (by decide) (by decide) rfl #[(0, .int .i64 5)] (by simp only [List.map_toArray, List.map_cons, List.map_nil]; rfl) rfl ?_
  intro g7 x7 hi7 hb7 _
  have hc7 := below_chain hc6 hb7
  clear hi7 hb7 hc6
  simp only [Act.put, List.setIfInBounds_toArray, List.set_cons_succ, List.set_cons_zero]
  refine wpList_ints rfl rfl [7] (by decide) (by decide) rfl #[(0, .int .i64 7)] (by simp only [List.map_toArray, List.map_cons, List.map_nil]; rfl) rfl ?_
  intro g8 x8 hi8 hb8 _
  have hc8 := below_chain hc7 hb8
  clear hc7
  have hk8 := hi8
  clear hi8 hb8
  simp only [Act.put, List.setIfInBounds_toArray, List.set_cons_succ, List.set_cons_zero]
  refine wpList_ints rfl rfl [6, 10] (by decide) (by decide) rfl #[(0, .int .i64 6), (1, .int .i64 10)] (by simp only [List.map_toArray, List.map_cons, List.map_nil]; rfl) rfl ?_
  intro g9 x9 hi9 hb9 _
  have hc9 := below_chain hc8 hb9
  have hk9 := Ints.new hk8 hb9
  clear hc8 hk8 hi9 hb9
  simp only [Act.put, List.setIfInBounds_toArray, List.set_cons_succ, List.set_cons_zero]
  refine wpList_ints rfl rfl [1, 10] (by decide) (by decide) rfl #[(0, .int .i64 1), (1, .int .i64 10)] (by simp only [List.map_toArray, List.map_cons, List.map_nil]; rfl) rfl ?_
  intro g10 x10 hi10 hb10 _
  have hc10 := below_chain hc9 hb10
  have hk10 := Ints.new hk9 hb10
  clear hc9 hk9 hi10 hb10
  simp only [Act.put, List.setIfInBounds_toArray, List.set_cons_succ, List.set_cons_zero]
  refine wpList_ints rfl rfl [1] (by decide) (by decide) rfl #[(0, .int .i64 1)] (by simp only [List.map_toArray, List.map_cons, List.map_nil]; rfl) rfl ?_
  intro g11 x11 hi11 hb11 _
  have hc11 := below_chain hc10 hb11
  have hk11 := Ints.new hk10 hb11
  clear hc10 hk10 hi11 hb11
  simp only [Act.put, List.setIfInBounds_toArray, List.set_cons_succ, List.set_cons_zero]
  refine wpList_ints rfl rfl [2, 8] (by decide) (by decide) rfl #[(0, .int .i64 2), (1, .int .i64 8)] (by simp only [List.map_toArray, List.map_cons, List.map_nil]; rfl) rfl ?_
  intro g12 x12 hi12 hb12 _
  have hc12 := below_chain hc11 hb12
  have hk12 := Ints.new hk11 hb12
  clear hc11 hk11 hi12 hb12
  simp only [Act.put, List.setIfInBounds_toArray, List.set_cons_succ, List.set_cons_zero]
  refine wpList_ints rfl rfl [8] (by decide) (by decide) rfl #[(0, .int .i64 8)] (by simp only [List.map_toArray, List.map_cons, List.map_nil]; rfl) rfl ?_
  intro g13 x13 hi13 hb13 _
  have hc13 := below_chain hc12 hb13
  have hk13 := Ints.new hk12 hb13
  clear hc12 hk12 hi13 hb13
  simp only [Act.put, List.setIfInBounds_toArray, List.set_cons_succ, List.set_cons_zero]
  refine wpList_ints rfl rfl [2, 9] (by decide) (by decide) rfl #[(0, .int .i64 2), (1, .int .i64 9)] (by simp only [List.map_toArray, List.map_cons, List.map_nil]; rfl) rfl ?_
  intro g14 x14 hi14 hb14 _
  have hc14 := below_chain hc13 hb14
  have hk14 := Ints.new hk13 hb14
  clear hc13 hk13 hi14 hb14
  simp only [Act.put, List.setIfInBounds_toArray, List.set_cons_succ, List.set_cons_zero]
  refine wpList_ints rfl rfl [8, 9] (by decide) (by decide) rfl #[(0, .int .i64 8), (1, .int .i64 9)] (by simp only [List.map_toArray, List.map_cons, List.map_nil]; rfl) rfl ?_
  intro g15 x15 hi15 hb15 _
  have hc15 := below_chain hc14 hb15
  have hk15 := Ints.new hk14 hb15
  clear hc14 hk14 hi15 hb15
  simp only [Act.put, List.setIfInBounds_toArray, List.set_cons_succ, List.set_cons_zero]
  refine wpList_ints rfl rfl [8, 10] (by decide) (by decide) rfl #[(0, .int .i64 8), (1, .int .i64 10)] (by simp only [List.map_toArray, List.map_cons, List.map_nil]; rfl) rfl ?_
  intro g16 x16 hi16 hb16 _
  have hc16 := below_chain hc15 hb16
  have hk16 := Ints.new hk15 hb16
  clear hc15 hk15 hi16 hb16
  simp only [Act.put, List.setIfInBounds_toArray, List.set_cons_succ, List.set_cons_zero]
  refine wpList_ints rfl rfl [1, 10] (by decide) (by decide) rfl #[(0, .int .i64 1), (1, .int .i64 10)] (by simp only [List.map_toArray, List.map_cons, List.map_nil]; rfl) rfl ?_
  intro g17 x17 hi17 hb17 _
  have hc17 := below_chain hc16 hb17
  have hk17 := Ints.new hk16 hb17
  clear hc16 hk16 hi17 hb17
  simp only [Act.put, List.setIfInBounds_toArray, List.set_cons_succ, List.set_cons_zero]
  refine wpList_ints rfl rfl [1] (by decide) (by decide) rfl #[(0, .int .i64 1)] (by simp only [List.map_toArray, List.map_cons, List.map_nil]; rfl) rfl ?_
  intro g18 x18 hi18 hb18 _
  have hc18 := below_chain hc17 hb18
  have hk18 := Ints.new hk17 hb18
  clear hc17 hk17 hi18 hb18
  simp only [Act.put, List.setIfInBounds_toArray, List.set_cons_succ, List.set_cons_zero]
  refine wpList_ints rfl rfl [2, 11] (by decide) (by decide) rfl #[(0, .int .i64 2), (1, .int .i64 11)] (by simp only [List.map_toArray, List.map_cons, List.map_nil]; rfl) rfl ?_
  intro g19 x19 hi19 hb19 _
  have hc19 := below_chain hc18 hb19
  have hk19 := Ints.new hk18 hb19
  clear hc18 hk18 hi19 hb19
  simp only [Act.put, List.setIfInBounds_toArray, List.set_cons_succ, List.set_cons_zero]
  refine wpList_ints rfl rfl [11, 0] (by decide) (by decide) rfl #[(0, .int .i64 11), (1, .int .i64 0)] (by simp only [List.map_toArray, List.map_cons, List.map_nil]; rfl) rfl ?_
  intro g20 x20 hi20 hb20 _
  have hc20 := below_chain hc19 hb20
  have hk20 := Ints.new hk19 hb20
  clear hc19 hk19 hi20 hb20
  simp only [Act.put, List.setIfInBounds_toArray, List.set_cons_succ, List.set_cons_zero]
  have hix : ∀ w, (Instr.index 162 (.agg #[Value.slice none 0 0, Value.slice (some ⟨g0, 0, none⟩) 1 1, Value.slice (some ⟨g1, 0, none⟩) 1 1, Value.slice (some ⟨g2, 0, none⟩) 2 2, Value.slice (some ⟨g3, 0, none⟩) 2 2, Value.slice (some ⟨g4, 0, none⟩) 2 2, Value.slice (some ⟨g5, 0, none⟩) 1 1, Value.slice (some ⟨g6, 0, none⟩) 1 1, Value.slice (some ⟨g7, 0, none⟩) 1 1, Value.slice none 0 0, Value.slice (some ⟨g8, 0, none⟩) 1 1, Value.slice none 0 0, Value.slice (some ⟨g9, 0, none⟩) 2 2, Value.slice (some ⟨g10, 0, none⟩) 2 2, Value.slice (some ⟨g11, 0, none⟩) 1 1, Value.slice (some ⟨g12, 0, none⟩) 2 2, Value.slice (some ⟨g13, 0, none⟩) 1 1, Value.slice (some ⟨g14, 0, none⟩) 2 2, Value.slice (some ⟨g15, 0, none⟩) 2 2, Value.slice (some ⟨g16, 0, none⟩) 2 2, Value.slice (some ⟨g17, 0, none⟩) 2 2, Value.slice (some ⟨g18, 0, none⟩) 1 1, Value.slice (some ⟨g19, 0, none⟩) 2 2, Value.slice (some ⟨g20, 0, none⟩) 2 2]) (.int .i64 10)).run Try.prog w = .ok (Value.slice (some ⟨g8, 0, none⟩) 1 1) w := fun w => index_slices w _ 10 (by decide) rfl
  have c20 := (hc20.cell (block_lt_of_cell c0)).trans c0
  have hcl := clone_ints x20 _ _ hk20 (by decide)
  unfold IntsPost at hcl
  have HZ := Lib.hid (And.intro hc20 hcl)
  clear hc20 hk20 hcl c0
  go_wp2_with (go_at_call 71; (refine Calls.mono HZ.out.2 ?_); rintro e w9 ⟨A9, z9, rfl, ho9, hb9⟩; have H9 := Lib.hid (And.intro ho9 hb9); clear ho9 hb9)
  go_ret
  exact ⟨_, _, _, rfl, rfl, H9.out.1.sees, below_chain HT.out.2.2 (below_chain HZ.out.1 H9.out.2)⟩
set_option maxRecDepth 100000 in
set_option maxHeartbeats 4000000 in
theorem reads_11 (W : World) (p : Pln) (ctx K : Int) (h : Okp p ctx K) (at_ : Nat) (hat : at_ < p.places) (pos layer head row : Int) (hs : (⟨11, pos, layer, head, row⟩ : Stp.Stp) ∈ Stp.placeL p at_) :
    Calls Try.prog 37 #[.agg (planC p ctx K).toArray, .agg #[.int .i64 11, .int .i64 pos, .int .i64 layer, .int .i64 head, .int .i64 row]] W (ReadsPost W (readsL p.places ⟨11, pos, layer, head, row⟩)) := by
  obtain ⟨hb, f1, f2⟩ := h.facts
  have hpb : p.places ≤ 64 := by unfold Pln.places; omega
  have hok := ok_place hb (by omega) hs
  have hra := rat_of W p ctx K h at_ hat 11 pos layer head row hs hok.pos
  obtain ⟨w1, hw1⟩ : ∃ w1, w1 = (W.alloc (.cells (planC p ctx K).toArray 62)).alloc (.cells #[.int .i64 11, .int .i64 pos, .int .i64 layer, .int .i64 head, .int .i64 row] 69) := ⟨_, rfl⟩
  rw [← hw1] at hra
  obtain ⟨PL, hPL⟩ : ∃ PL, PL = p.places := ⟨_, rfl⟩
  have hky := fun w (i : Nat) (hi : i ≤ 512) => key_any w p ctx K h layer (i : Int) hok.layer (by omega)
  rw [← hPL] at hky ⊢
  have hpos := hok.pos
  simp only at hpos
  have hat9 : at_ ≤ 64 := by omega
  have hrl : readsL PL ⟨11, pos, layer, head, row⟩ = [7, 6] ++ keysL PL layer (at_ + 1) := by
    unfold readsL
    rw [if_neg (by simp), if_pos rfl, hpos, Int.toNat_natCast]
  rw [hrl]
  have HK := Lib.hid (And.intro hky (And.intro hpos (And.intro (by rw [hPL]; exact hpb : PL ≤ 64) hok.layer)))
  have i0 : pos ≤ 64 := by omega
  have i00 : 0 ≤ pos := by omega
  clear hky hPL hrl hpos
  have HW := Lib.hid hw1
  have HC := Lib.hid hra
  clear hw1 hra hs hok hb f1 f2 hpb hat
  go_enter Try.func37, Try.ntmps37
  go_upto_region 1 with fail
  rw [← HW.out]
  go_upto_region 3 with (first | (refine wpList_load_mid rfl 62 (.tmp 2) rfl W.heap.size 0 rfl (planC p ctx K) _ (rangeAt_whole HC.out.pl) Try.underlying62 rfl plan_size ?_; simp only [Act.put, List.setIfInBounds_toArray, List.set_cons_succ, List.set_cons_zero]) | (refine wpList_load_mid rfl 69 (.tmp 3) rfl (W.heap.size + 1) 0 rfl (Stp.Stp.cells ⟨11, pos, layer, head, row⟩) _ (rangeAt_whole HC.out.st) Try.underlying69 rfl step_size ?_; simp only [Act.put, List.setIfInBounds_toArray, List.set_cons_succ, List.set_cons_zero]) | (go_at_call 85; (with_reducible refine Calls.mono HC.out.has ?_); rintro e w2 ⟨rfl, hb2⟩; have HB := Lib.hid hb2; clear hb2))
  have hst2 := (HB.out.block _ (Array.getElem?_eq_some_iff.1 HC.out.st).1).trans HC.out.st
  have hpl2 := (HB.out.block _ (Array.getElem?_eq_some_iff.1 HC.out.pl).1).trans HC.out.pl
  have c0 : w2.cell? ⟨W.heap.size + 1, 0, none⟩ = some (.int .i64 11) := by rw [cell_of_row _ _ 0 _ _ _ hst2]; rfl
  have c1 : w2.cell? ⟨W.heap.size + 1, 1, none⟩ = some (.int .i64 pos) := by rw [cell_of_row _ _ 1 _ _ _ hst2]; rfl
  have c2 : w2.cell? ⟨W.heap.size + 1, 2, none⟩ = some (.int .i64 layer) := by rw [cell_of_row _ _ 2 _ _ _ hst2]; rfl
  have c4 : w2.cell? ⟨W.heap.size + 1, 4, none⟩ = some (.int .i64 row) := by rw [cell_of_row _ _ 4 _ _ _ hst2]; rfl
  have hb12 := HB.out
  have HT := Lib.hid (And.intro hst2 (And.intro hpl2 (below_chain HC.out.below HB.out)))
  clear hst2 hpl2 hb12
  go_upto_region 8 with (refine wpList_ints rfl rfl [7, 6] (by decide) (by decide) rfl #[(0, .int .i64 7), (1, .int .i64 6)] (by simp only [List.map_toArray, List.map_cons, List.map_nil]; rfl) rfl ?_; intro g3 w3 _ hb3 ho3; simp only [Act.put, List.setIfInBounds_toArray, List.set_cons_succ, List.set_cons_zero]; have c13 := (hb3.cell (block_lt_of_cell c1)).trans c1; have H3 := Lib.hid (And.intro ho3 hb3); clear ho3 hb3)
  obtain ⟨m, hm⟩ : ∃ m : Nat, m = at_ + 1 := ⟨_, rfl⟩
  have hmi : pos + 1 = (m : Int) := by have := HK.out.2.1; omega
  have HM := Lib.hid (And.intro hm hmi)
  have hm9 : m ≤ 65 := by omega
  clear hm hmi c0 c1 c2 c4
  go_wp2_with fail
  go_loopw [5, 28] (fun v5 v28 wr => ∃ (i : Nat) (A : Option Addr) (N c : Nat), i ≤ m ∧ v5 = .slice A N c ∧ v28 = .int .i64 (i : Int) ∧ N ≤ 2 + i ∧ Hid (N = 2 + i ∧ Owns wr w2.heap.size 1 (.slice A N c) N (intsV ([7, 6] ++ keysL PL layer i)) ∧ Below w2.heap.size w2 wr)) (fun _ v28 _ => m - (intOf v28).toNat)
  case atStart => exact ⟨0, _, 2, 2, Nat.zero_le _, rfl, rfl, by omega, Lib.hid ⟨rfl, H3.out.1, H3.out.2⟩⟩
  case round =>
    obtain ⟨i, A, N, c, hi, rfl, rfl, hNb, hI⟩ := hrel
    rw [HM.out.2]
    by_cases hlt : i < m
    · have i1 : (i : Int) < (m : Int) := by omega
      have i2 : (i : Int) ≤ 65 := by omega
      have c2 : wr.cell? ⟨W.heap.size + 1, 2, none⟩ = some (.int .i64 layer) := by rw [cell_of_row _ _ 2 _ _ _ ((hI.out.2.2.block _ (Array.getElem?_eq_some_iff.1 HT.out.1).1).trans HT.out.1)]; rfl
      have hky := HK.out.1 wr i (by omega)
      obtain ⟨kv, hkv⟩ : ∃ kv, kv = keyV PL layer (i : Int) := ⟨_, rfl⟩
      have hkb : 0 ≤ kv ∧ kv ≤ 100000 := by
        have := key_bound HK.out.2.2.1 HK.out.2.2.2
        rw [hkv]
        unfold keyV
        omega
      rw [← hkv] at hky
      have HY := Lib.hid (And.intro hky (And.intro hkv ((hI.out.2.2.block _ (Array.getElem?_eq_some_iff.1 HT.out.2.1).1).trans HT.out.2.1)))
      clear hky hkv
      go_wp2_with (first | (refine wpList_load_mid rfl 62 (.tmp 2) rfl W.heap.size 0 rfl (planC p ctx K) _ (rangeAt_whole HY.out.2.2) Try.underlying62 rfl plan_size ?_; simp only [Act.put, List.setIfInBounds_toArray, List.set_cons_succ, List.set_cons_zero]) | (go_at_call 86; (with_reducible refine Calls.mono HY.out.1 ?_); rintro e w4 ⟨rfl, hb4⟩; have ho4 := hI.out.2.1.same (fun b hb => hb4.block b (hI.out.2.1.lt b hb).2) hb4.size; have H4 := Lib.hid (And.intro ho4 hb4); clear ho4 hb4) | (refine wpList_ints rfl rfl [kv + 1] (by simp) (by simp) rfl #[(0, .int .i64 (kv + 1))] (by simp only [List.map_toArray, List.map_cons, List.map_nil]; rfl) rfl ?_; intro g5 w5 hi5 hb5 _; simp only [Act.put, List.setIfInBounds_toArray, List.set_cons_succ, List.set_cons_zero]; have ho5 := H4.out.1.same (fun b hb => hb5.block b (H4.out.1.lt b hb).2) hb5.size; have H5 := Lib.hid (And.intro hi5 (And.intro ho5 hb5)); clear hi5 ho5 hb5) | (at_builtin; refine wpList_append rfl (.tmp 31) (.tmp 38) 26 26 rfl w2.heap.size 3 _ 1 8 Try.underlying26 infoI _ N (intsV ([7, 6] ++ keysL PL layer i)) rfl (by exact H5.out.2.1) _ 1 (intsV [kv + 1]) rfl (by exact src_of_sees _ Try.underlying26 H5.out.1 (intsV_one _)) (by unfold maxLen; omega) (by omega) (by have := H4.out.2.size; have := H5.out.2.2.size; have := hI.out.2.2.size; omega) ?_; intro A7 c7 w7 hown hg hbl; have H7 := Lib.hid (And.intro hown hg); clear hown hg hbl))
      go_roundw
      case rel =>
        refine ⟨i + 1, A7, N + 1, c7, by omega, by go_num, by go_num, by omega, Lib.hid ⟨by have := hI.out.1; omega, ?_, ?_⟩⟩
        · have h7 := H7.out.1
          rw [keysL_succ, ← List.append_assoc, ← HY.out.2.1]
          rw [← intsV_append] at h7
          exact h7
        · exact (below_chain (below_chain hI.out.2.2 H4.out.2) H5.out.2.2).grown H7.out.2 (below_chain (below_chain hI.out.2.2 H4.out.2) H5.out.2.2).size (fun k e => by have := (H5.out.2.1.lt k e).1; omega)
      case measure => simp [intOf]; omega
    · obtain rfl : m = i := by omega
      go_wp2_with fail
      go_ret
      have h1 := hI.out.2.1.sees
      have hl : N = ([7, 6] ++ keysL PL layer m).length := by rw [List.length_append, keysL_length]; exact hI.out.1
      rw [← HM.out.1]
      refine ⟨A, N, c, rfl, hl, ?_, below_chain HT.out.2.2 hI.out.2.2⟩
      show Sees wr 1 (.slice A N c) ([7, 6] ++ keysL PL layer m).length (intsV ([7, 6] ++ keysL PL layer m))
      rw [← hl]
      exact h1
set_option maxRecDepth 100000 in
set_option maxHeartbeats 4000000 in
theorem reads_12 (W : World) (p : Pln) (ctx K : Int) (h : Okp p ctx K) (at_ : Nat) (hat : at_ < p.places) (pos layer head row : Int) (hs : (⟨12, pos, layer, head, row⟩ : Stp.Stp) ∈ Stp.placeL p at_) :
    Calls Try.prog 37 #[.agg (planC p ctx K).toArray, .agg #[.int .i64 12, .int .i64 pos, .int .i64 layer, .int .i64 head, .int .i64 row]] W (ReadsPost W (readsL p.places ⟨12, pos, layer, head, row⟩)) := by
  obtain ⟨hb, f1, f2⟩ := h.facts
  have hpb : p.places ≤ 64 := by unfold Pln.places; omega
  have hok := ok_place hb (by omega) hs
  have hra := rat_of W p ctx K h at_ hat 12 pos layer head row hs hok.pos
  obtain ⟨w1, hw1⟩ : ∃ w1, w1 = (W.alloc (.cells (planC p ctx K).toArray 62)).alloc (.cells #[.int .i64 12, .int .i64 pos, .int .i64 layer, .int .i64 head, .int .i64 row] 69) := ⟨_, rfl⟩
  rw [← hw1] at hra
  have HW := Lib.hid hw1
  have HC := Lib.hid hra
  clear hw1 hra hs hok hb f1 f2 hpb hat
  go_enter Try.func37, Try.ntmps37
  go_upto_region 1 with fail
  rw [← HW.out]
  go_upto_region 3 with (first | (refine wpList_load_mid rfl 62 (.tmp 2) rfl W.heap.size 0 rfl (planC p ctx K) _ (rangeAt_whole HC.out.pl) Try.underlying62 rfl plan_size ?_; simp only [Act.put, List.setIfInBounds_toArray, List.set_cons_succ, List.set_cons_zero]) | (refine wpList_load_mid rfl 69 (.tmp 3) rfl (W.heap.size + 1) 0 rfl (Stp.Stp.cells ⟨12, pos, layer, head, row⟩) _ (rangeAt_whole HC.out.st) Try.underlying69 rfl step_size ?_; simp only [Act.put, List.setIfInBounds_toArray, List.set_cons_succ, List.set_cons_zero]) | (go_at_call 85; (with_reducible refine Calls.mono HC.out.has ?_); rintro e w2 ⟨rfl, hb2⟩; have HB := Lib.hid hb2; clear hb2))
  have hst2 := (HB.out.block _ (Array.getElem?_eq_some_iff.1 HC.out.st).1).trans HC.out.st
  have hpl2 := (HB.out.block _ (Array.getElem?_eq_some_iff.1 HC.out.pl).1).trans HC.out.pl
  have c0 : w2.cell? ⟨W.heap.size + 1, 0, none⟩ = some (.int .i64 12) := by rw [cell_of_row _ _ 0 _ _ _ hst2]; rfl
  have c1 : w2.cell? ⟨W.heap.size + 1, 1, none⟩ = some (.int .i64 pos) := by rw [cell_of_row _ _ 1 _ _ _ hst2]; rfl
  have c2 : w2.cell? ⟨W.heap.size + 1, 2, none⟩ = some (.int .i64 layer) := by rw [cell_of_row _ _ 2 _ _ _ hst2]; rfl
  have c4 : w2.cell? ⟨W.heap.size + 1, 4, none⟩ = some (.int .i64 row) := by rw [cell_of_row _ _ 4 _ _ _ hst2]; rfl
  have hb12 := HB.out
  have HT := Lib.hid (And.intro hst2 (And.intro hpl2 (below_chain HC.out.below HB.out)))
  clear hst2 hpl2 hb12
  go_upto_region 14 with fail
  refine wp_region_lit ?_
  clear c1 c2 c4
  refine wpList_ints rfl rfl [0] (by decide) (by decide) rfl #[(0, .int .i64 0)] (by simp only [List.map_toArray, List.map_cons, List.map_nil]; rfl) rfl ?_
  intro g0 x0 hi0 hb0 _
  have hc0 := hb0
  clear hi0 hb0
  simp only [Act.put, List.setIfInBounds_toArray, List.set_cons_succ, List.set_cons_zero]
  refine wpList_ints rfl rfl [1] (by decide) (by decide) rfl #[(0, .int .i64 1)] (by simp only [List.map_toArray, List.map_cons, List.map_nil]; rfl) rfl ?_
  intro g1 x1 hi1 hb1 _
  have hc1 := below_chain hc0 hb1
  clear hi1 hb1 hc0
  simp only [Act.put, List.setIfInBounds_toArray, List.set_cons_succ, List.set_cons_zero]
  refine wpList_ints rfl rfl [2, 3] (by decide) (by decide) rfl #[(0, .int .i64 2), (1, .int .i64 3)] (by simp only [List.map_toArray, List.map_cons, List.map_nil]; rfl) rfl ?_
  intro g2 x2 hi2 hb2 _
  have hc2 := below_chain hc1 hb2
  clear hi2 hb2 hc1
  simp only [Act.put, List.setIfInBounds_toArray, List.set_cons_succ, List.set_cons_zero]
  refine wpList_ints rfl rfl [2, 4] (by decide) (by decide) rfl #[(0, .int .i64 2), (1, .int .i64 4)] (by simp only [List.map_toArray, List.map_cons, List.map_nil]; rfl) rfl ?_
  intro g3 x3 hi3 hb3 _
  have hc3 := below_chain hc2 hb3
  clear hi3 hb3 hc2
  simp only [Act.put, List.setIfInBounds_toArray, List.set_cons_succ, List.set_cons_zero]
  refine wpList_ints rfl rfl [2, 5] (by decide) (by decide) rfl #[(0, .int .i64 2), (1, .int .i64 5)] (by simp only [List.map_toArray, List.map_cons, List.map_nil]; rfl) rfl ?_
  intro g4 x4 hi4 hb4 _
  have hc4 := below_chain hc3 hb4
  clear hi4 hb4 hc3
  simp only [Act.put, List.setIfInBounds_toArray, List.set_cons_succ, List.set_cons_zero]
  refine wpList_ints rfl rfl [3] (by decide) (by decide) rfl #[(0, .int .i64 3)] (by simp only [List.map_toArray, List.map_cons, List.map_nil]; rfl) rfl ?_
  intro g5 x5 hi5 hb5 _
  have hc5 := below_chain hc4 hb5
  clear hi5 hb5 hc4
  simp only [Act.put, List.setIfInBounds_toArray, List.set_cons_succ, List.set_cons_zero]
  refine wpList_ints rfl rfl [4] (by decide) (by decide) rfl #[(0, .int .i64 4)] (by simp only [List.map_toArray, List.map_cons, List.map_nil]; rfl) rfl ?_
  intro g6 x6 hi6 hb6 _
  have hc6 := below_chain hc5 hb6
  clear hi6 hb6 hc5
  simp only [Act.put, List.setIfInBounds_toArray, List.set_cons_succ, List.set_cons_zero]
  refine wpList_ints rfl rfl [5] (by decide) (by decide) rfl #[(0, .int .i64 5)] (by simp only [List.map_toArray, List.map_cons, List.map_nil]; rfl) rfl ?_
  intro g7 x7 hi7 hb7 _
  have hc7 := below_chain hc6 hb7
  clear hi7 hb7 hc6
  simp only [Act.put, List.setIfInBounds_toArray, List.set_cons_succ, List.set_cons_zero]
  refine wpList_ints rfl rfl [7] (by decide) (by decide) rfl #[(0, .int .i64 7)] (by simp only [List.map_toArray, List.map_cons, List.map_nil]; rfl) rfl ?_
  intro g8 x8 hi8 hb8 _
  have hc8 := below_chain hc7 hb8
  clear hi8 hb8 hc7
  simp only [Act.put, List.setIfInBounds_toArray, List.set_cons_succ, List.set_cons_zero]
  refine wpList_ints rfl rfl [6, 10] (by decide) (by decide) rfl #[(0, .int .i64 6), (1, .int .i64 10)] (by simp only [List.map_toArray, List.map_cons, List.map_nil]; rfl) rfl ?_
  intro g9 x9 hi9 hb9 _
  have hc9 := below_chain hc8 hb9
  clear hc8
  have hk9 := hi9
  clear hi9 hb9
  simp only [Act.put, List.setIfInBounds_toArray, List.set_cons_succ, List.set_cons_zero]
  refine wpList_ints rfl rfl [1, 10] (by decide) (by decide) rfl #[(0, .int .i64 1), (1, .int .i64 10)] (by simp only [List.map_toArray, List.map_cons, List.map_nil]; rfl) rfl ?_
  intro g10 x10 hi10 hb10 _
  have hc10 := below_chain hc9 hb10
  have hk10 := Ints.new hk9 hb10
  clear hc9 hk9 hi10 hb10
  simp only [Act.put, List.setIfInBounds_toArray, List.set_cons_succ, List.set_cons_zero]
  refine wpList_ints rfl rfl [1] (by decide) (by decide) rfl #[(0, .int .i64 1)] (by simp only [List.map_toArray, List.map_cons, List.map_nil]; rfl) rfl ?_
  intro g11 x11 hi11 hb11 _
  have hc11 := below_chain hc10 hb11
  have hk11 := Ints.new hk10 hb11
  clear hc10 hk10 hi11 hb11
  simp only [Act.put, List.setIfInBounds_toArray, List.set_cons_succ, List.set_cons_zero]
  refine wpList_ints rfl rfl [2, 8] (by decide) (by decide) rfl #[(0, .int .i64 2), (1, .int .i64 8)] (by simp only [List.map_toArray, List.map_cons, List.map_nil]; rfl) rfl ?_
  intro g12 x12 hi12 hb12 _
  have hc12 := below_chain hc11 hb12
  have hk12 := Ints.new hk11 hb12
  clear hc11 hk11 hi12 hb12
  simp only [Act.put, List.setIfInBounds_toArray, List.set_cons_succ, List.set_cons_zero]
  refine wpList_ints rfl rfl [8] (by decide) (by decide) rfl #[(0, .int .i64 8)] (by simp only [List.map_toArray, List.map_cons, List.map_nil]; rfl) rfl ?_
  intro g13 x13 hi13 hb13 _
  have hc13 := below_chain hc12 hb13
  have hk13 := Ints.new hk12 hb13
  clear hc12 hk12 hi13 hb13
  simp only [Act.put, List.setIfInBounds_toArray, List.set_cons_succ, List.set_cons_zero]
  refine wpList_ints rfl rfl [2, 9] (by decide) (by decide) rfl #[(0, .int .i64 2), (1, .int .i64 9)] (by simp only [List.map_toArray, List.map_cons, List.map_nil]; rfl) rfl ?_
  intro g14 x14 hi14 hb14 _
  have hc14 := below_chain hc13 hb14
  have hk14 := Ints.new hk13 hb14
  clear hc13 hk13 hi14 hb14
  simp only [Act.put, List.setIfInBounds_toArray, List.set_cons_succ, List.set_cons_zero]
  refine wpList_ints rfl rfl [8, 9] (by decide) (by decide) rfl #[(0, .int .i64 8), (1, .int .i64 9)] (by simp only [List.map_toArray, List.map_cons, List.map_nil]; rfl) rfl ?_
  intro g15 x15 hi15 hb15 _
  have hc15 := below_chain hc14 hb15
  have hk15 := Ints.new hk14 hb15
  clear hc14 hk14 hi15 hb15
  simp only [Act.put, List.setIfInBounds_toArray, List.set_cons_succ, List.set_cons_zero]
  refine wpList_ints rfl rfl [8, 10] (by decide) (by decide) rfl #[(0, .int .i64 8), (1, .int .i64 10)] (by simp only [List.map_toArray, List.map_cons, List.map_nil]; rfl) rfl ?_
  intro g16 x16 hi16 hb16 _
  have hc16 := below_chain hc15 hb16
  have hk16 := Ints.new hk15 hb16
  clear hc15 hk15 hi16 hb16
  simp only [Act.put, List.setIfInBounds_toArray, List.set_cons_succ, List.set_cons_zero]
  refine wpList_ints rfl rfl [1, 10] (by decide) (by decide) rfl #[(0, .int .i64 1), (1, .int .i64 10)] (by simp only [List.map_toArray, List.map_cons, List.map_nil]; rfl) rfl ?_
  intro g17 x17 hi17 hb17 _
  have hc17 := below_chain hc16 hb17
  have hk17 := Ints.new hk16 hb17
  clear hc16 hk16 hi17 hb17
  simp only [Act.put, List.setIfInBounds_toArray, List.set_cons_succ, List.set_cons_zero]
  refine wpList_ints rfl rfl [1] (by decide) (by decide) rfl #[(0, .int .i64 1)] (by simp only [List.map_toArray, List.map_cons, List.map_nil]; rfl) rfl ?_
  intro g18 x18 hi18 hb18 _
  have hc18 := below_chain hc17 hb18
  have hk18 := Ints.new hk17 hb18
  clear hc17 hk17 hi18 hb18
  simp only [Act.put, List.setIfInBounds_toArray, List.set_cons_succ, List.set_cons_zero]
  refine wpList_ints rfl rfl [2, 11] (by decide) (by decide) rfl #[(0, .int .i64 2), (1, .int .i64 11)] (by simp only [List.map_toArray, List.map_cons, List.map_nil]; rfl) rfl ?_
  intro g19 x19 hi19 hb19 _
  have hc19 := below_chain hc18 hb19
  have hk19 := Ints.new hk18 hb19
  clear hc18 hk18 hi19 hb19
  simp only [Act.put, List.setIfInBounds_toArray, List.set_cons_succ, List.set_cons_zero]
  refine wpList_ints rfl rfl [11, 0] (by decide) (by decide) rfl #[(0, .int .i64 11), (1, .int .i64 0)] (by simp only [List.map_toArray, List.map_cons, List.map_nil]; rfl) rfl ?_
  intro g20 x20 hi20 hb20 _
  have hc20 := below_chain hc19 hb20
  have hk20 := Ints.new hk19 hb20
  clear hc19 hk19 hi20 hb20
  simp only [Act.put, List.setIfInBounds_toArray, List.set_cons_succ, List.set_cons_zero]
  have hix : ∀ w, (Instr.index 162 (.agg #[Value.slice none 0 0, Value.slice (some ⟨g0, 0, none⟩) 1 1, Value.slice (some ⟨g1, 0, none⟩) 1 1, Value.slice (some ⟨g2, 0, none⟩) 2 2, Value.slice (some ⟨g3, 0, none⟩) 2 2, Value.slice (some ⟨g4, 0, none⟩) 2 2, Value.slice (some ⟨g5, 0, none⟩) 1 1, Value.slice (some ⟨g6, 0, none⟩) 1 1, Value.slice (some ⟨g7, 0, none⟩) 1 1, Value.slice none 0 0, Value.slice (some ⟨g8, 0, none⟩) 1 1, Value.slice none 0 0, Value.slice (some ⟨g9, 0, none⟩) 2 2, Value.slice (some ⟨g10, 0, none⟩) 2 2, Value.slice (some ⟨g11, 0, none⟩) 1 1, Value.slice (some ⟨g12, 0, none⟩) 2 2, Value.slice (some ⟨g13, 0, none⟩) 1 1, Value.slice (some ⟨g14, 0, none⟩) 2 2, Value.slice (some ⟨g15, 0, none⟩) 2 2, Value.slice (some ⟨g16, 0, none⟩) 2 2, Value.slice (some ⟨g17, 0, none⟩) 2 2, Value.slice (some ⟨g18, 0, none⟩) 1 1, Value.slice (some ⟨g19, 0, none⟩) 2 2, Value.slice (some ⟨g20, 0, none⟩) 2 2]) (.int .i64 12)).run Try.prog w = .ok (Value.slice (some ⟨g9, 0, none⟩) 2 2) w := fun w => index_slices w _ 12 (by decide) rfl
  have c20 := (hc20.cell (block_lt_of_cell c0)).trans c0
  have hcl := clone_ints x20 _ _ hk20 (by decide)
  unfold IntsPost at hcl
  have HZ := Lib.hid (And.intro hc20 hcl)
  clear hc20 hk20 hcl c0
  go_wp2_with (go_at_call 71; (refine Calls.mono HZ.out.2 ?_); rintro e w9 ⟨A9, z9, rfl, ho9, hb9⟩; have H9 := Lib.hid (And.intro ho9 hb9); clear ho9 hb9)
  go_ret
  exact ⟨_, _, _, rfl, rfl, H9.out.1.sees, below_chain HT.out.2.2 (below_chain HZ.out.1 H9.out.2)⟩
set_option maxRecDepth 100000 in
set_option maxHeartbeats 4000000 in
theorem reads_13 (W : World) (p : Pln) (ctx K : Int) (h : Okp p ctx K) (at_ : Nat) (hat : at_ < p.places) (pos layer head row : Int) (hs : (⟨13, pos, layer, head, row⟩ : Stp.Stp) ∈ Stp.placeL p at_) :
    Calls Try.prog 37 #[.agg (planC p ctx K).toArray, .agg #[.int .i64 13, .int .i64 pos, .int .i64 layer, .int .i64 head, .int .i64 row]] W (ReadsPost W (readsL p.places ⟨13, pos, layer, head, row⟩)) := by
  obtain ⟨hb, f1, f2⟩ := h.facts
  have hpb : p.places ≤ 64 := by unfold Pln.places; omega
  have hok := ok_place hb (by omega) hs
  have hra := rat_of W p ctx K h at_ hat 13 pos layer head row hs hok.pos
  obtain ⟨w1, hw1⟩ : ∃ w1, w1 = (W.alloc (.cells (planC p ctx K).toArray 62)).alloc (.cells #[.int .i64 13, .int .i64 pos, .int .i64 layer, .int .i64 head, .int .i64 row] 69) := ⟨_, rfl⟩
  rw [← hw1] at hra
  have HW := Lib.hid hw1
  have HC := Lib.hid hra
  clear hw1 hra hs hok hb f1 f2 hpb hat
  go_enter Try.func37, Try.ntmps37
  go_upto_region 1 with fail
  rw [← HW.out]
  go_upto_region 3 with (first | (refine wpList_load_mid rfl 62 (.tmp 2) rfl W.heap.size 0 rfl (planC p ctx K) _ (rangeAt_whole HC.out.pl) Try.underlying62 rfl plan_size ?_; simp only [Act.put, List.setIfInBounds_toArray, List.set_cons_succ, List.set_cons_zero]) | (refine wpList_load_mid rfl 69 (.tmp 3) rfl (W.heap.size + 1) 0 rfl (Stp.Stp.cells ⟨13, pos, layer, head, row⟩) _ (rangeAt_whole HC.out.st) Try.underlying69 rfl step_size ?_; simp only [Act.put, List.setIfInBounds_toArray, List.set_cons_succ, List.set_cons_zero]) | (go_at_call 85; (with_reducible refine Calls.mono HC.out.has ?_); rintro e w2 ⟨rfl, hb2⟩; have HB := Lib.hid hb2; clear hb2))
  have hst2 := (HB.out.block _ (Array.getElem?_eq_some_iff.1 HC.out.st).1).trans HC.out.st
  have hpl2 := (HB.out.block _ (Array.getElem?_eq_some_iff.1 HC.out.pl).1).trans HC.out.pl
  have c0 : w2.cell? ⟨W.heap.size + 1, 0, none⟩ = some (.int .i64 13) := by rw [cell_of_row _ _ 0 _ _ _ hst2]; rfl
  have c1 : w2.cell? ⟨W.heap.size + 1, 1, none⟩ = some (.int .i64 pos) := by rw [cell_of_row _ _ 1 _ _ _ hst2]; rfl
  have c2 : w2.cell? ⟨W.heap.size + 1, 2, none⟩ = some (.int .i64 layer) := by rw [cell_of_row _ _ 2 _ _ _ hst2]; rfl
  have c4 : w2.cell? ⟨W.heap.size + 1, 4, none⟩ = some (.int .i64 row) := by rw [cell_of_row _ _ 4 _ _ _ hst2]; rfl
  have hb12 := HB.out
  have HT := Lib.hid (And.intro hst2 (And.intro hpl2 (below_chain HC.out.below HB.out)))
  clear hst2 hpl2 hb12
  go_upto_region 14 with fail
  refine wp_region_lit ?_
  clear c1 c2 c4
  refine wpList_ints rfl rfl [0] (by decide) (by decide) rfl #[(0, .int .i64 0)] (by simp only [List.map_toArray, List.map_cons, List.map_nil]; rfl) rfl ?_
  intro g0 x0 hi0 hb0 _
  have hc0 := hb0
  clear hi0 hb0
  simp only [Act.put, List.setIfInBounds_toArray, List.set_cons_succ, List.set_cons_zero]
  refine wpList_ints rfl rfl [1] (by decide) (by decide) rfl #[(0, .int .i64 1)] (by simp only [List.map_toArray, List.map_cons, List.map_nil]; rfl) rfl ?_
  intro g1 x1 hi1 hb1 _
  have hc1 := below_chain hc0 hb1
  clear hi1 hb1 hc0
  simp only [Act.put, List.setIfInBounds_toArray, List.set_cons_succ, List.set_cons_zero]
  refine wpList_ints rfl rfl [2, 3] (by decide) (by decide) rfl #[(0, .int .i64 2), (1, .int .i64 3)] (by simp only [List.map_toArray, List.map_cons, List.map_nil]; rfl) rfl ?_
  intro g2 x2 hi2 hb2 _
  have hc2 := below_chain hc1 hb2
  clear hi2 hb2 hc1
  simp only [Act.put, List.setIfInBounds_toArray, List.set_cons_succ, List.set_cons_zero]
  refine wpList_ints rfl rfl [2, 4] (by decide) (by decide) rfl #[(0, .int .i64 2), (1, .int .i64 4)] (by simp only [List.map_toArray, List.map_cons, List.map_nil]; rfl) rfl ?_
  intro g3 x3 hi3 hb3 _
  have hc3 := below_chain hc2 hb3
  clear hi3 hb3 hc2
  simp only [Act.put, List.setIfInBounds_toArray, List.set_cons_succ, List.set_cons_zero]
  refine wpList_ints rfl rfl [2, 5] (by decide) (by decide) rfl #[(0, .int .i64 2), (1, .int .i64 5)] (by simp only [List.map_toArray, List.map_cons, List.map_nil]; rfl) rfl ?_
  intro g4 x4 hi4 hb4 _
  have hc4 := below_chain hc3 hb4
  clear hi4 hb4 hc3
  simp only [Act.put, List.setIfInBounds_toArray, List.set_cons_succ, List.set_cons_zero]
  refine wpList_ints rfl rfl [3] (by decide) (by decide) rfl #[(0, .int .i64 3)] (by simp only [List.map_toArray, List.map_cons, List.map_nil]; rfl) rfl ?_
  intro g5 x5 hi5 hb5 _
  have hc5 := below_chain hc4 hb5
  clear hi5 hb5 hc4
  simp only [Act.put, List.setIfInBounds_toArray, List.set_cons_succ, List.set_cons_zero]
  refine wpList_ints rfl rfl [4] (by decide) (by decide) rfl #[(0, .int .i64 4)] (by simp only [List.map_toArray, List.map_cons, List.map_nil]; rfl) rfl ?_
  intro g6 x6 hi6 hb6 _
  have hc6 := below_chain hc5 hb6
  clear hi6 hb6 hc5
  simp only [Act.put, List.setIfInBounds_toArray, List.set_cons_succ, List.set_cons_zero]
  refine wpList_ints rfl rfl [5] (by decide) (by decide) rfl #[(0, .int .i64 5)] (by simp only [List.map_toArray, List.map_cons, List.map_nil]; rfl) rfl ?_
  intro g7 x7 hi7 hb7 _
  have hc7 := below_chain hc6 hb7
  clear hi7 hb7 hc6
  simp only [Act.put, List.setIfInBounds_toArray, List.set_cons_succ, List.set_cons_zero]
  refine wpList_ints rfl rfl [7] (by decide) (by decide) rfl #[(0, .int .i64 7)] (by simp only [List.map_toArray, List.map_cons, List.map_nil]; rfl) rfl ?_
  intro g8 x8 hi8 hb8 _
  have hc8 := below_chain hc7 hb8
  clear hi8 hb8 hc7
  simp only [Act.put, List.setIfInBounds_toArray, List.set_cons_succ, List.set_cons_zero]
  refine wpList_ints rfl rfl [6, 10] (by decide) (by decide) rfl #[(0, .int .i64 6), (1, .int .i64 10)] (by simp only [List.map_toArray, List.map_cons, List.map_nil]; rfl) rfl ?_
  intro g9 x9 hi9 hb9 _
  have hc9 := below_chain hc8 hb9
  clear hi9 hb9 hc8
  simp only [Act.put, List.setIfInBounds_toArray, List.set_cons_succ, List.set_cons_zero]
  refine wpList_ints rfl rfl [1, 10] (by decide) (by decide) rfl #[(0, .int .i64 1), (1, .int .i64 10)] (by simp only [List.map_toArray, List.map_cons, List.map_nil]; rfl) rfl ?_
  intro g10 x10 hi10 hb10 _
  have hc10 := below_chain hc9 hb10
  clear hc9
  have hk10 := hi10
  clear hi10 hb10
  simp only [Act.put, List.setIfInBounds_toArray, List.set_cons_succ, List.set_cons_zero]
  refine wpList_ints rfl rfl [1] (by decide) (by decide) rfl #[(0, .int .i64 1)] (by simp only [List.map_toArray, List.map_cons, List.map_nil]; rfl) rfl ?_
  intro g11 x11 hi11 hb11 _
  have hc11 := below_chain hc10 hb11
  have hk11 := Ints.new hk10 hb11
  clear hc10 hk10 hi11 hb11
  simp only [Act.put, List.setIfInBounds_toArray, List.set_cons_succ, List.set_cons_zero]
  refine wpList_ints rfl rfl [2, 8] (by decide) (by decide) rfl #[(0, .int .i64 2), (1, .int .i64 8)] (by simp only [List.map_toArray, List.map_cons, List.map_nil]; rfl) rfl ?_
  intro g12 x12 hi12 hb12 _
  have hc12 := below_chain hc11 hb12
  have hk12 := Ints.new hk11 hb12
  clear hc11 hk11 hi12 hb12
  simp only [Act.put, List.setIfInBounds_toArray, List.set_cons_succ, List.set_cons_zero]
  refine wpList_ints rfl rfl [8] (by decide) (by decide) rfl #[(0, .int .i64 8)] (by simp only [List.map_toArray, List.map_cons, List.map_nil]; rfl) rfl ?_
  intro g13 x13 hi13 hb13 _
  have hc13 := below_chain hc12 hb13
  have hk13 := Ints.new hk12 hb13
  clear hc12 hk12 hi13 hb13
  simp only [Act.put, List.setIfInBounds_toArray, List.set_cons_succ, List.set_cons_zero]
  refine wpList_ints rfl rfl [2, 9] (by decide) (by decide) rfl #[(0, .int .i64 2), (1, .int .i64 9)] (by simp only [List.map_toArray, List.map_cons, List.map_nil]; rfl) rfl ?_
  intro g14 x14 hi14 hb14 _
  have hc14 := below_chain hc13 hb14
  have hk14 := Ints.new hk13 hb14
  clear hc13 hk13 hi14 hb14
  simp only [Act.put, List.setIfInBounds_toArray, List.set_cons_succ, List.set_cons_zero]
  refine wpList_ints rfl rfl [8, 9] (by decide) (by decide) rfl #[(0, .int .i64 8), (1, .int .i64 9)] (by simp only [List.map_toArray, List.map_cons, List.map_nil]; rfl) rfl ?_
  intro g15 x15 hi15 hb15 _
  have hc15 := below_chain hc14 hb15
  have hk15 := Ints.new hk14 hb15
  clear hc14 hk14 hi15 hb15
  simp only [Act.put, List.setIfInBounds_toArray, List.set_cons_succ, List.set_cons_zero]
  refine wpList_ints rfl rfl [8, 10] (by decide) (by decide) rfl #[(0, .int .i64 8), (1, .int .i64 10)] (by simp only [List.map_toArray, List.map_cons, List.map_nil]; rfl) rfl ?_
  intro g16 x16 hi16 hb16 _
  have hc16 := below_chain hc15 hb16
  have hk16 := Ints.new hk15 hb16
  clear hc15 hk15 hi16 hb16
  simp only [Act.put, List.setIfInBounds_toArray, List.set_cons_succ, List.set_cons_zero]
  refine wpList_ints rfl rfl [1, 10] (by decide) (by decide) rfl #[(0, .int .i64 1), (1, .int .i64 10)] (by simp only [List.map_toArray, List.map_cons, List.map_nil]; rfl) rfl ?_
  intro g17 x17 hi17 hb17 _
  have hc17 := below_chain hc16 hb17
  have hk17 := Ints.new hk16 hb17
  clear hc16 hk16 hi17 hb17
  simp only [Act.put, List.setIfInBounds_toArray, List.set_cons_succ, List.set_cons_zero]
  refine wpList_ints rfl rfl [1] (by decide) (by decide) rfl #[(0, .int .i64 1)] (by simp only [List.map_toArray, List.map_cons, List.map_nil]; rfl) rfl ?_
  intro g18 x18 hi18 hb18 _
  have hc18 := below_chain hc17 hb18
  have hk18 := Ints.new hk17 hb18
  clear hc17 hk17 hi18 hb18
  simp only [Act.put, List.setIfInBounds_toArray, List.set_cons_succ, List.set_cons_zero]
  refine wpList_ints rfl rfl [2, 11] (by decide) (by decide) rfl #[(0, .int .i64 2), (1, .int .i64 11)] (by simp only [List.map_toArray, List.map_cons, List.map_nil]; rfl) rfl ?_
  intro g19 x19 hi19 hb19 _
  have hc19 := below_chain hc18 hb19
  have hk19 := Ints.new hk18 hb19
  clear hc18 hk18 hi19 hb19
  simp only [Act.put, List.setIfInBounds_toArray, List.set_cons_succ, List.set_cons_zero]
  refine wpList_ints rfl rfl [11, 0] (by decide) (by decide) rfl #[(0, .int .i64 11), (1, .int .i64 0)] (by simp only [List.map_toArray, List.map_cons, List.map_nil]; rfl) rfl ?_
  intro g20 x20 hi20 hb20 _
  have hc20 := below_chain hc19 hb20
  have hk20 := Ints.new hk19 hb20
  clear hc19 hk19 hi20 hb20
  simp only [Act.put, List.setIfInBounds_toArray, List.set_cons_succ, List.set_cons_zero]
  have hix : ∀ w, (Instr.index 162 (.agg #[Value.slice none 0 0, Value.slice (some ⟨g0, 0, none⟩) 1 1, Value.slice (some ⟨g1, 0, none⟩) 1 1, Value.slice (some ⟨g2, 0, none⟩) 2 2, Value.slice (some ⟨g3, 0, none⟩) 2 2, Value.slice (some ⟨g4, 0, none⟩) 2 2, Value.slice (some ⟨g5, 0, none⟩) 1 1, Value.slice (some ⟨g6, 0, none⟩) 1 1, Value.slice (some ⟨g7, 0, none⟩) 1 1, Value.slice none 0 0, Value.slice (some ⟨g8, 0, none⟩) 1 1, Value.slice none 0 0, Value.slice (some ⟨g9, 0, none⟩) 2 2, Value.slice (some ⟨g10, 0, none⟩) 2 2, Value.slice (some ⟨g11, 0, none⟩) 1 1, Value.slice (some ⟨g12, 0, none⟩) 2 2, Value.slice (some ⟨g13, 0, none⟩) 1 1, Value.slice (some ⟨g14, 0, none⟩) 2 2, Value.slice (some ⟨g15, 0, none⟩) 2 2, Value.slice (some ⟨g16, 0, none⟩) 2 2, Value.slice (some ⟨g17, 0, none⟩) 2 2, Value.slice (some ⟨g18, 0, none⟩) 1 1, Value.slice (some ⟨g19, 0, none⟩) 2 2, Value.slice (some ⟨g20, 0, none⟩) 2 2]) (.int .i64 13)).run Try.prog w = .ok (Value.slice (some ⟨g10, 0, none⟩) 2 2) w := fun w => index_slices w _ 13 (by decide) rfl
  have c20 := (hc20.cell (block_lt_of_cell c0)).trans c0
  have hcl := clone_ints x20 _ _ hk20 (by decide)
  unfold IntsPost at hcl
  have HZ := Lib.hid (And.intro hc20 hcl)
  clear hc20 hk20 hcl c0
  go_wp2_with (go_at_call 71; (refine Calls.mono HZ.out.2 ?_); rintro e w9 ⟨A9, z9, rfl, ho9, hb9⟩; have H9 := Lib.hid (And.intro ho9 hb9); clear ho9 hb9)
  go_ret
  exact ⟨_, _, _, rfl, rfl, H9.out.1.sees, below_chain HT.out.2.2 (below_chain HZ.out.1 H9.out.2)⟩
set_option maxRecDepth 100000 in
set_option maxHeartbeats 4000000 in
theorem reads_14 (W : World) (p : Pln) (ctx K : Int) (h : Okp p ctx K) (at_ : Nat) (hat : at_ < p.places) (pos layer head row : Int) (hs : (⟨14, pos, layer, head, row⟩ : Stp.Stp) ∈ Stp.placeL p at_) :
    Calls Try.prog 37 #[.agg (planC p ctx K).toArray, .agg #[.int .i64 14, .int .i64 pos, .int .i64 layer, .int .i64 head, .int .i64 row]] W (ReadsPost W (readsL p.places ⟨14, pos, layer, head, row⟩)) := by
  obtain ⟨hb, f1, f2⟩ := h.facts
  have hpb : p.places ≤ 64 := by unfold Pln.places; omega
  have hok := ok_place hb (by omega) hs
  have hra := rat_of W p ctx K h at_ hat 14 pos layer head row hs hok.pos
  obtain ⟨w1, hw1⟩ : ∃ w1, w1 = (W.alloc (.cells (planC p ctx K).toArray 62)).alloc (.cells #[.int .i64 14, .int .i64 pos, .int .i64 layer, .int .i64 head, .int .i64 row] 69) := ⟨_, rfl⟩
  rw [← hw1] at hra
  have HW := Lib.hid hw1
  have HC := Lib.hid hra
  clear hw1 hra hs hok hb f1 f2 hpb hat
  go_enter Try.func37, Try.ntmps37
  go_upto_region 1 with fail
  rw [← HW.out]
  go_upto_region 3 with (first | (refine wpList_load_mid rfl 62 (.tmp 2) rfl W.heap.size 0 rfl (planC p ctx K) _ (rangeAt_whole HC.out.pl) Try.underlying62 rfl plan_size ?_; simp only [Act.put, List.setIfInBounds_toArray, List.set_cons_succ, List.set_cons_zero]) | (refine wpList_load_mid rfl 69 (.tmp 3) rfl (W.heap.size + 1) 0 rfl (Stp.Stp.cells ⟨14, pos, layer, head, row⟩) _ (rangeAt_whole HC.out.st) Try.underlying69 rfl step_size ?_; simp only [Act.put, List.setIfInBounds_toArray, List.set_cons_succ, List.set_cons_zero]) | (go_at_call 85; (with_reducible refine Calls.mono HC.out.has ?_); rintro e w2 ⟨rfl, hb2⟩; have HB := Lib.hid hb2; clear hb2))
  have hst2 := (HB.out.block _ (Array.getElem?_eq_some_iff.1 HC.out.st).1).trans HC.out.st
  have hpl2 := (HB.out.block _ (Array.getElem?_eq_some_iff.1 HC.out.pl).1).trans HC.out.pl
  have c0 : w2.cell? ⟨W.heap.size + 1, 0, none⟩ = some (.int .i64 14) := by rw [cell_of_row _ _ 0 _ _ _ hst2]; rfl
  have c1 : w2.cell? ⟨W.heap.size + 1, 1, none⟩ = some (.int .i64 pos) := by rw [cell_of_row _ _ 1 _ _ _ hst2]; rfl
  have c2 : w2.cell? ⟨W.heap.size + 1, 2, none⟩ = some (.int .i64 layer) := by rw [cell_of_row _ _ 2 _ _ _ hst2]; rfl
  have c4 : w2.cell? ⟨W.heap.size + 1, 4, none⟩ = some (.int .i64 row) := by rw [cell_of_row _ _ 4 _ _ _ hst2]; rfl
  have hb12 := HB.out
  have HT := Lib.hid (And.intro hst2 (And.intro hpl2 (below_chain HC.out.below HB.out)))
  clear hst2 hpl2 hb12
  go_upto_region 14 with fail
  refine wp_region_lit ?_
  clear c1 c2 c4
  refine wpList_ints rfl rfl [0] (by decide) (by decide) rfl #[(0, .int .i64 0)] (by simp only [List.map_toArray, List.map_cons, List.map_nil]; rfl) rfl ?_
  intro g0 x0 hi0 hb0 _
  have hc0 := hb0
  clear hi0 hb0
  simp only [Act.put, List.setIfInBounds_toArray, List.set_cons_succ, List.set_cons_zero]
  refine wpList_ints rfl rfl [1] (by decide) (by decide) rfl #[(0, .int .i64 1)] (by simp only [List.map_toArray, List.map_cons, List.map_nil]; rfl) rfl ?_
  intro g1 x1 hi1 hb1 _
  have hc1 := below_chain hc0 hb1
  clear hi1 hb1 hc0
  simp only [Act.put, List.setIfInBounds_toArray, List.set_cons_succ, List.set_cons_zero]
  refine wpList_ints rfl rfl [2, 3] (by decide) (by decide) rfl #[(0, .int .i64 2), (1, .int .i64 3)] (by simp only [List.map_toArray, List.map_cons, List.map_nil]; rfl) rfl ?_
  intro g2 x2 hi2 hb2 _
  have hc2 := below_chain hc1 hb2
  clear hi2 hb2 hc1
  simp only [Act.put, List.setIfInBounds_toArray, List.set_cons_succ, List.set_cons_zero]
  refine wpList_ints rfl rfl [2, 4] (by decide) (by decide) rfl #[(0, .int .i64 2), (1, .int .i64 4)] (by simp only [List.map_toArray, List.map_cons, List.map_nil]; rfl) rfl ?_
  intro g3 x3 hi3 hb3 _
  have hc3 := below_chain hc2 hb3
  clear hi3 hb3 hc2
  simp only [Act.put, List.setIfInBounds_toArray, List.set_cons_succ, List.set_cons_zero]
  refine wpList_ints rfl rfl [2, 5] (by decide) (by decide) rfl #[(0, .int .i64 2), (1, .int .i64 5)] (by simp only [List.map_toArray, List.map_cons, List.map_nil]; rfl) rfl ?_
  intro g4 x4 hi4 hb4 _
  have hc4 := below_chain hc3 hb4
  clear hi4 hb4 hc3
  simp only [Act.put, List.setIfInBounds_toArray, List.set_cons_succ, List.set_cons_zero]
  refine wpList_ints rfl rfl [3] (by decide) (by decide) rfl #[(0, .int .i64 3)] (by simp only [List.map_toArray, List.map_cons, List.map_nil]; rfl) rfl ?_
  intro g5 x5 hi5 hb5 _
  have hc5 := below_chain hc4 hb5
  clear hi5 hb5 hc4
  simp only [Act.put, List.setIfInBounds_toArray, List.set_cons_succ, List.set_cons_zero]
  refine wpList_ints rfl rfl [4] (by decide) (by decide) rfl #[(0, .int .i64 4)] (by simp only [List.map_toArray, List.map_cons, List.map_nil]; rfl) rfl ?_
  intro g6 x6 hi6 hb6 _
  have hc6 := below_chain hc5 hb6
  clear hi6 hb6 hc5
  simp only [Act.put, List.setIfInBounds_toArray, List.set_cons_succ, List.set_cons_zero]
  refine wpList_ints rfl rfl [5] (by decide) (by decide) rfl #[(0, .int .i64 5)] (by simp only [List.map_toArray, List.map_cons, List.map_nil]; rfl) rfl ?_
  intro g7 x7 hi7 hb7 _
  have hc7 := below_chain hc6 hb7
  clear hi7 hb7 hc6
  simp only [Act.put, List.setIfInBounds_toArray, List.set_cons_succ, List.set_cons_zero]
  refine wpList_ints rfl rfl [7] (by decide) (by decide) rfl #[(0, .int .i64 7)] (by simp only [List.map_toArray, List.map_cons, List.map_nil]; rfl) rfl ?_
  intro g8 x8 hi8 hb8 _
  have hc8 := below_chain hc7 hb8
  clear hi8 hb8 hc7
  simp only [Act.put, List.setIfInBounds_toArray, List.set_cons_succ, List.set_cons_zero]
  refine wpList_ints rfl rfl [6, 10] (by decide) (by decide) rfl #[(0, .int .i64 6), (1, .int .i64 10)] (by simp only [List.map_toArray, List.map_cons, List.map_nil]; rfl) rfl ?_
  intro g9 x9 hi9 hb9 _
  have hc9 := below_chain hc8 hb9
  clear hi9 hb9 hc8
  simp only [Act.put, List.setIfInBounds_toArray, List.set_cons_succ, List.set_cons_zero]
  refine wpList_ints rfl rfl [1, 10] (by decide) (by decide) rfl #[(0, .int .i64 1), (1, .int .i64 10)] (by simp only [List.map_toArray, List.map_cons, List.map_nil]; rfl) rfl ?_
  intro g10 x10 hi10 hb10 _
  have hc10 := below_chain hc9 hb10
  clear hi10 hb10 hc9
  simp only [Act.put, List.setIfInBounds_toArray, List.set_cons_succ, List.set_cons_zero]
  refine wpList_ints rfl rfl [1] (by decide) (by decide) rfl #[(0, .int .i64 1)] (by simp only [List.map_toArray, List.map_cons, List.map_nil]; rfl) rfl ?_
  intro g11 x11 hi11 hb11 _
  have hc11 := below_chain hc10 hb11
  clear hc10
  have hk11 := hi11
  clear hi11 hb11
  simp only [Act.put, List.setIfInBounds_toArray, List.set_cons_succ, List.set_cons_zero]
  refine wpList_ints rfl rfl [2, 8] (by decide) (by decide) rfl #[(0, .int .i64 2), (1, .int .i64 8)] (by simp only [List.map_toArray, List.map_cons, List.map_nil]; rfl) rfl ?_
  intro g12 x12 hi12 hb12 _
  have hc12 := below_chain hc11 hb12
  have hk12 := Ints.new hk11 hb12
  clear hc11 hk11 hi12 hb12
  simp only [Act.put, List.setIfInBounds_toArray, List.set_cons_succ, List.set_cons_zero]
  refine wpList_ints rfl rfl [8] (by decide) (by decide) rfl #[(0, .int .i64 8)] (by simp only [List.map_toArray, List.map_cons, List.map_nil]; rfl) rfl ?_
  intro g13 x13 hi13 hb13 _
  have hc13 := below_chain hc12 hb13
  have hk13 := Ints.new hk12 hb13
  clear hc12 hk12 hi13 hb13
  simp only [Act.put, List.setIfInBounds_toArray, List.set_cons_succ, List.set_cons_zero]
  refine wpList_ints rfl rfl [2, 9] (by decide) (by decide) rfl #[(0, .int .i64 2), (1, .int .i64 9)] (by simp only [List.map_toArray, List.map_cons, List.map_nil]; rfl) rfl ?_
  intro g14 x14 hi14 hb14 _
  have hc14 := below_chain hc13 hb14
  have hk14 := Ints.new hk13 hb14
  clear hc13 hk13 hi14 hb14
  simp only [Act.put, List.setIfInBounds_toArray, List.set_cons_succ, List.set_cons_zero]
  refine wpList_ints rfl rfl [8, 9] (by decide) (by decide) rfl #[(0, .int .i64 8), (1, .int .i64 9)] (by simp only [List.map_toArray, List.map_cons, List.map_nil]; rfl) rfl ?_
  intro g15 x15 hi15 hb15 _
  have hc15 := below_chain hc14 hb15
  have hk15 := Ints.new hk14 hb15
  clear hc14 hk14 hi15 hb15
  simp only [Act.put, List.setIfInBounds_toArray, List.set_cons_succ, List.set_cons_zero]
  refine wpList_ints rfl rfl [8, 10] (by decide) (by decide) rfl #[(0, .int .i64 8), (1, .int .i64 10)] (by simp only [List.map_toArray, List.map_cons, List.map_nil]; rfl) rfl ?_
  intro g16 x16 hi16 hb16 _
  have hc16 := below_chain hc15 hb16
  have hk16 := Ints.new hk15 hb16
  clear hc15 hk15 hi16 hb16
  simp only [Act.put, List.setIfInBounds_toArray, List.set_cons_succ, List.set_cons_zero]
  refine wpList_ints rfl rfl [1, 10] (by decide) (by decide) rfl #[(0, .int .i64 1), (1, .int .i64 10)] (by simp only [List.map_toArray, List.map_cons, List.map_nil]; rfl) rfl ?_
  intro g17 x17 hi17 hb17 _
  have hc17 := below_chain hc16 hb17
  have hk17 := Ints.new hk16 hb17
  clear hc16 hk16 hi17 hb17
  simp only [Act.put, List.setIfInBounds_toArray, List.set_cons_succ, List.set_cons_zero]
  refine wpList_ints rfl rfl [1] (by decide) (by decide) rfl #[(0, .int .i64 1)] (by simp only [List.map_toArray, List.map_cons, List.map_nil]; rfl) rfl ?_
  intro g18 x18 hi18 hb18 _
  have hc18 := below_chain hc17 hb18
  have hk18 := Ints.new hk17 hb18
  clear hc17 hk17 hi18 hb18
  simp only [Act.put, List.setIfInBounds_toArray, List.set_cons_succ, List.set_cons_zero]
  refine wpList_ints rfl rfl [2, 11] (by decide) (by decide) rfl #[(0, .int .i64 2), (1, .int .i64 11)] (by simp only [List.map_toArray, List.map_cons, List.map_nil]; rfl) rfl ?_
  intro g19 x19 hi19 hb19 _
  have hc19 := below_chain hc18 hb19
  have hk19 := Ints.new hk18 hb19
  clear hc18 hk18 hi19 hb19
  simp only [Act.put, List.setIfInBounds_toArray, List.set_cons_succ, List.set_cons_zero]
  refine wpList_ints rfl rfl [11, 0] (by decide) (by decide) rfl #[(0, .int .i64 11), (1, .int .i64 0)] (by simp only [List.map_toArray, List.map_cons, List.map_nil]; rfl) rfl ?_
  intro g20 x20 hi20 hb20 _
  have hc20 := below_chain hc19 hb20
  have hk20 := Ints.new hk19 hb20
  clear hc19 hk19 hi20 hb20
  simp only [Act.put, List.setIfInBounds_toArray, List.set_cons_succ, List.set_cons_zero]
  have hix : ∀ w, (Instr.index 162 (.agg #[Value.slice none 0 0, Value.slice (some ⟨g0, 0, none⟩) 1 1, Value.slice (some ⟨g1, 0, none⟩) 1 1, Value.slice (some ⟨g2, 0, none⟩) 2 2, Value.slice (some ⟨g3, 0, none⟩) 2 2, Value.slice (some ⟨g4, 0, none⟩) 2 2, Value.slice (some ⟨g5, 0, none⟩) 1 1, Value.slice (some ⟨g6, 0, none⟩) 1 1, Value.slice (some ⟨g7, 0, none⟩) 1 1, Value.slice none 0 0, Value.slice (some ⟨g8, 0, none⟩) 1 1, Value.slice none 0 0, Value.slice (some ⟨g9, 0, none⟩) 2 2, Value.slice (some ⟨g10, 0, none⟩) 2 2, Value.slice (some ⟨g11, 0, none⟩) 1 1, Value.slice (some ⟨g12, 0, none⟩) 2 2, Value.slice (some ⟨g13, 0, none⟩) 1 1, Value.slice (some ⟨g14, 0, none⟩) 2 2, Value.slice (some ⟨g15, 0, none⟩) 2 2, Value.slice (some ⟨g16, 0, none⟩) 2 2, Value.slice (some ⟨g17, 0, none⟩) 2 2, Value.slice (some ⟨g18, 0, none⟩) 1 1, Value.slice (some ⟨g19, 0, none⟩) 2 2, Value.slice (some ⟨g20, 0, none⟩) 2 2]) (.int .i64 14)).run Try.prog w = .ok (Value.slice (some ⟨g11, 0, none⟩) 1 1) w := fun w => index_slices w _ 14 (by decide) rfl
  have c20 := (hc20.cell (block_lt_of_cell c0)).trans c0
  have hcl := clone_ints x20 _ _ hk20 (by decide)
  unfold IntsPost at hcl
  have HZ := Lib.hid (And.intro hc20 hcl)
  clear hc20 hk20 hcl c0
  go_wp2_with (go_at_call 71; (refine Calls.mono HZ.out.2 ?_); rintro e w9 ⟨A9, z9, rfl, ho9, hb9⟩; have H9 := Lib.hid (And.intro ho9 hb9); clear ho9 hb9)
  go_ret
  exact ⟨_, _, _, rfl, rfl, H9.out.1.sees, below_chain HT.out.2.2 (below_chain HZ.out.1 H9.out.2)⟩
set_option maxRecDepth 100000 in
set_option maxHeartbeats 4000000 in
theorem reads_15 (W : World) (p : Pln) (ctx K : Int) (h : Okp p ctx K) (at_ : Nat) (hat : at_ < p.places) (pos layer head row : Int) (hs : (⟨15, pos, layer, head, row⟩ : Stp.Stp) ∈ Stp.placeL p at_) :
    Calls Try.prog 37 #[.agg (planC p ctx K).toArray, .agg #[.int .i64 15, .int .i64 pos, .int .i64 layer, .int .i64 head, .int .i64 row]] W (ReadsPost W (readsL p.places ⟨15, pos, layer, head, row⟩)) := by
  obtain ⟨hb, f1, f2⟩ := h.facts
  have hpb : p.places ≤ 64 := by unfold Pln.places; omega
  have hok := ok_place hb (by omega) hs
  have hra := rat_of W p ctx K h at_ hat 15 pos layer head row hs hok.pos
  obtain ⟨w1, hw1⟩ : ∃ w1, w1 = (W.alloc (.cells (planC p ctx K).toArray 62)).alloc (.cells #[.int .i64 15, .int .i64 pos, .int .i64 layer, .int .i64 head, .int .i64 row] 69) := ⟨_, rfl⟩
  rw [← hw1] at hra
  have HW := Lib.hid hw1
  have HC := Lib.hid hra
  clear hw1 hra hs hok hb f1 f2 hpb hat
  go_enter Try.func37, Try.ntmps37
  go_upto_region 1 with fail
  rw [← HW.out]
  go_upto_region 3 with (first | (refine wpList_load_mid rfl 62 (.tmp 2) rfl W.heap.size 0 rfl (planC p ctx K) _ (rangeAt_whole HC.out.pl) Try.underlying62 rfl plan_size ?_; simp only [Act.put, List.setIfInBounds_toArray, List.set_cons_succ, List.set_cons_zero]) | (refine wpList_load_mid rfl 69 (.tmp 3) rfl (W.heap.size + 1) 0 rfl (Stp.Stp.cells ⟨15, pos, layer, head, row⟩) _ (rangeAt_whole HC.out.st) Try.underlying69 rfl step_size ?_; simp only [Act.put, List.setIfInBounds_toArray, List.set_cons_succ, List.set_cons_zero]) | (go_at_call 85; (with_reducible refine Calls.mono HC.out.has ?_); rintro e w2 ⟨rfl, hb2⟩; have HB := Lib.hid hb2; clear hb2))
  have hst2 := (HB.out.block _ (Array.getElem?_eq_some_iff.1 HC.out.st).1).trans HC.out.st
  have hpl2 := (HB.out.block _ (Array.getElem?_eq_some_iff.1 HC.out.pl).1).trans HC.out.pl
  have c0 : w2.cell? ⟨W.heap.size + 1, 0, none⟩ = some (.int .i64 15) := by rw [cell_of_row _ _ 0 _ _ _ hst2]; rfl
  have c1 : w2.cell? ⟨W.heap.size + 1, 1, none⟩ = some (.int .i64 pos) := by rw [cell_of_row _ _ 1 _ _ _ hst2]; rfl
  have c2 : w2.cell? ⟨W.heap.size + 1, 2, none⟩ = some (.int .i64 layer) := by rw [cell_of_row _ _ 2 _ _ _ hst2]; rfl
  have c4 : w2.cell? ⟨W.heap.size + 1, 4, none⟩ = some (.int .i64 row) := by rw [cell_of_row _ _ 4 _ _ _ hst2]; rfl
  have hb12 := HB.out
  have HT := Lib.hid (And.intro hst2 (And.intro hpl2 (below_chain HC.out.below HB.out)))
  clear hst2 hpl2 hb12
  go_upto_region 14 with fail
  refine wp_region_lit ?_
  clear c1 c2 c4
  refine wpList_ints rfl rfl [0] (by decide) (by decide) rfl #[(0, .int .i64 0)] (by simp only [List.map_toArray, List.map_cons, List.map_nil]; rfl) rfl ?_
  intro g0 x0 hi0 hb0 _
  have hc0 := hb0
  clear hi0 hb0
  simp only [Act.put, List.setIfInBounds_toArray, List.set_cons_succ, List.set_cons_zero]
  refine wpList_ints rfl rfl [1] (by decide) (by decide) rfl #[(0, .int .i64 1)] (by simp only [List.map_toArray, List.map_cons, List.map_nil]; rfl) rfl ?_
  intro g1 x1 hi1 hb1 _
  have hc1 := below_chain hc0 hb1
  clear hi1 hb1 hc0
  simp only [Act.put, List.setIfInBounds_toArray, List.set_cons_succ, List.set_cons_zero]
  refine wpList_ints rfl rfl [2, 3] (by decide) (by decide) rfl #[(0, .int .i64 2), (1, .int .i64 3)] (by simp only [List.map_toArray, List.map_cons, List.map_nil]; rfl) rfl ?_
  intro g2 x2 hi2 hb2 _
  have hc2 := below_chain hc1 hb2
  clear hi2 hb2 hc1
  simp only [Act.put, List.setIfInBounds_toArray, List.set_cons_succ, List.set_cons_zero]
  refine wpList_ints rfl rfl [2, 4] (by decide) (by decide) rfl #[(0, .int .i64 2), (1, .int .i64 4)] (by simp only [List.map_toArray, List.map_cons, List.map_nil]; rfl) rfl ?_
  intro g3 x3 hi3 hb3 _
  have hc3 := below_chain hc2 hb3
  clear hi3 hb3 hc2
  simp only [Act.put, List.setIfInBounds_toArray, List.set_cons_succ, List.set_cons_zero]
  refine wpList_ints rfl rfl [2, 5] (by decide) (by decide) rfl #[(0, .int .i64 2), (1, .int .i64 5)] (by simp only [List.map_toArray, List.map_cons, List.map_nil]; rfl) rfl ?_
  intro g4 x4 hi4 hb4 _
  have hc4 := below_chain hc3 hb4
  clear hi4 hb4 hc3
  simp only [Act.put, List.setIfInBounds_toArray, List.set_cons_succ, List.set_cons_zero]
  refine wpList_ints rfl rfl [3] (by decide) (by decide) rfl #[(0, .int .i64 3)] (by simp only [List.map_toArray, List.map_cons, List.map_nil]; rfl) rfl ?_
  intro g5 x5 hi5 hb5 _
  have hc5 := below_chain hc4 hb5
  clear hi5 hb5 hc4
  simp only [Act.put, List.setIfInBounds_toArray, List.set_cons_succ, List.set_cons_zero]
  refine wpList_ints rfl rfl [4] (by decide) (by decide) rfl #[(0, .int .i64 4)] (by simp only [List.map_toArray, List.map_cons, List.map_nil]; rfl) rfl ?_
  intro g6 x6 hi6 hb6 _
  have hc6 := below_chain hc5 hb6
  clear hi6 hb6 hc5
  simp only [Act.put, List.setIfInBounds_toArray, List.set_cons_succ, List.set_cons_zero]
  refine wpList_ints rfl rfl [5] (by decide) (by decide) rfl #[(0, .int .i64 5)] (by simp only [List.map_toArray, List.map_cons, List.map_nil]; rfl) rfl ?_
  intro g7 x7 hi7 hb7 _
  have hc7 := below_chain hc6 hb7
  clear hi7 hb7 hc6
  simp only [Act.put, List.setIfInBounds_toArray, List.set_cons_succ, List.set_cons_zero]
  refine wpList_ints rfl rfl [7] (by decide) (by decide) rfl #[(0, .int .i64 7)] (by simp only [List.map_toArray, List.map_cons, List.map_nil]; rfl) rfl ?_
  intro g8 x8 hi8 hb8 _
  have hc8 := below_chain hc7 hb8
  clear hi8 hb8 hc7
  simp only [Act.put, List.setIfInBounds_toArray, List.set_cons_succ, List.set_cons_zero]
  refine wpList_ints rfl rfl [6, 10] (by decide) (by decide) rfl #[(0, .int .i64 6), (1, .int .i64 10)] (by simp only [List.map_toArray, List.map_cons, List.map_nil]; rfl) rfl ?_
  intro g9 x9 hi9 hb9 _
  have hc9 := below_chain hc8 hb9
  clear hi9 hb9 hc8
  simp only [Act.put, List.setIfInBounds_toArray, List.set_cons_succ, List.set_cons_zero]
  refine wpList_ints rfl rfl [1, 10] (by decide) (by decide) rfl #[(0, .int .i64 1), (1, .int .i64 10)] (by simp only [List.map_toArray, List.map_cons, List.map_nil]; rfl) rfl ?_
  intro g10 x10 hi10 hb10 _
  have hc10 := below_chain hc9 hb10
  clear hi10 hb10 hc9
  simp only [Act.put, List.setIfInBounds_toArray, List.set_cons_succ, List.set_cons_zero]
  refine wpList_ints rfl rfl [1] (by decide) (by decide) rfl #[(0, .int .i64 1)] (by simp only [List.map_toArray, List.map_cons, List.map_nil]; rfl) rfl ?_
  intro g11 x11 hi11 hb11 _
  have hc11 := below_chain hc10 hb11
  clear hi11 hb11 hc10
  simp only [Act.put, List.setIfInBounds_toArray, List.set_cons_succ, List.set_cons_zero]
  refine wpList_ints rfl rfl [2, 8] (by decide) (by decide) rfl #[(0, .int .i64 2), (1, .int .i64 8)] (by simp only [List.map_toArray, List.map_cons, List.map_nil]; rfl) rfl ?_
  intro g12 x12 hi12 hb12 _
  have hc12 := below_chain hc11 hb12
  clear hc11
  have hk12 := hi12
  clear hi12 hb12
  simp only [Act.put, List.setIfInBounds_toArray, List.set_cons_succ, List.set_cons_zero]
  refine wpList_ints rfl rfl [8] (by decide) (by decide) rfl #[(0, .int .i64 8)] (by simp only [List.map_toArray, List.map_cons, List.map_nil]; rfl) rfl ?_
  intro g13 x13 hi13 hb13 _
  have hc13 := below_chain hc12 hb13
  have hk13 := Ints.new hk12 hb13
  clear hc12 hk12 hi13 hb13
  simp only [Act.put, List.setIfInBounds_toArray, List.set_cons_succ, List.set_cons_zero]
  refine wpList_ints rfl rfl [2, 9] (by decide) (by decide) rfl #[(0, .int .i64 2), (1, .int .i64 9)] (by simp only [List.map_toArray, List.map_cons, List.map_nil]; rfl) rfl ?_
  intro g14 x14 hi14 hb14 _
  have hc14 := below_chain hc13 hb14
  have hk14 := Ints.new hk13 hb14
  clear hc13 hk13 hi14 hb14
  simp only [Act.put, List.setIfInBounds_toArray, List.set_cons_succ, List.set_cons_zero]
  refine wpList_ints rfl rfl [8, 9] (by decide) (by decide) rfl #[(0, .int .i64 8), (1, .int .i64 9)] (by simp only [List.map_toArray, List.map_cons, List.map_nil]; rfl) rfl ?_
  intro g15 x15 hi15 hb15 _
  have hc15 := below_chain hc14 hb15
  have hk15 := Ints.new hk14 hb15
  clear hc14 hk14 hi15 hb15
  simp only [Act.put, List.setIfInBounds_toArray, List.set_cons_succ, List.set_cons_zero]
  refine wpList_ints rfl rfl [8, 10] (by decide) (by decide) rfl #[(0, .int .i64 8), (1, .int .i64 10)] (by simp only [List.map_toArray, List.map_cons, List.map_nil]; rfl) rfl ?_
  intro g16 x16 hi16 hb16 _
  have hc16 := below_chain hc15 hb16
  have hk16 := Ints.new hk15 hb16
  clear hc15 hk15 hi16 hb16
  simp only [Act.put, List.setIfInBounds_toArray, List.set_cons_succ, List.set_cons_zero]
  refine wpList_ints rfl rfl [1, 10] (by decide) (by decide) rfl #[(0, .int .i64 1), (1, .int .i64 10)] (by simp only [List.map_toArray, List.map_cons, List.map_nil]; rfl) rfl ?_
  intro g17 x17 hi17 hb17 _
  have hc17 := below_chain hc16 hb17
  have hk17 := Ints.new hk16 hb17
  clear hc16 hk16 hi17 hb17
  simp only [Act.put, List.setIfInBounds_toArray, List.set_cons_succ, List.set_cons_zero]
  refine wpList_ints rfl rfl [1] (by decide) (by decide) rfl #[(0, .int .i64 1)] (by simp only [List.map_toArray, List.map_cons, List.map_nil]; rfl) rfl ?_
  intro g18 x18 hi18 hb18 _
  have hc18 := below_chain hc17 hb18
  have hk18 := Ints.new hk17 hb18
  clear hc17 hk17 hi18 hb18
  simp only [Act.put, List.setIfInBounds_toArray, List.set_cons_succ, List.set_cons_zero]
  refine wpList_ints rfl rfl [2, 11] (by decide) (by decide) rfl #[(0, .int .i64 2), (1, .int .i64 11)] (by simp only [List.map_toArray, List.map_cons, List.map_nil]; rfl) rfl ?_
  intro g19 x19 hi19 hb19 _
  have hc19 := below_chain hc18 hb19
  have hk19 := Ints.new hk18 hb19
  clear hc18 hk18 hi19 hb19
  simp only [Act.put, List.setIfInBounds_toArray, List.set_cons_succ, List.set_cons_zero]
  refine wpList_ints rfl rfl [11, 0] (by decide) (by decide) rfl #[(0, .int .i64 11), (1, .int .i64 0)] (by simp only [List.map_toArray, List.map_cons, List.map_nil]; rfl) rfl ?_
  intro g20 x20 hi20 hb20 _
  have hc20 := below_chain hc19 hb20
  have hk20 := Ints.new hk19 hb20
  clear hc19 hk19 hi20 hb20
  simp only [Act.put, List.setIfInBounds_toArray, List.set_cons_succ, List.set_cons_zero]
  have hix : ∀ w, (Instr.index 162 (.agg #[Value.slice none 0 0, Value.slice (some ⟨g0, 0, none⟩) 1 1, Value.slice (some ⟨g1, 0, none⟩) 1 1, Value.slice (some ⟨g2, 0, none⟩) 2 2, Value.slice (some ⟨g3, 0, none⟩) 2 2, Value.slice (some ⟨g4, 0, none⟩) 2 2, Value.slice (some ⟨g5, 0, none⟩) 1 1, Value.slice (some ⟨g6, 0, none⟩) 1 1, Value.slice (some ⟨g7, 0, none⟩) 1 1, Value.slice none 0 0, Value.slice (some ⟨g8, 0, none⟩) 1 1, Value.slice none 0 0, Value.slice (some ⟨g9, 0, none⟩) 2 2, Value.slice (some ⟨g10, 0, none⟩) 2 2, Value.slice (some ⟨g11, 0, none⟩) 1 1, Value.slice (some ⟨g12, 0, none⟩) 2 2, Value.slice (some ⟨g13, 0, none⟩) 1 1, Value.slice (some ⟨g14, 0, none⟩) 2 2, Value.slice (some ⟨g15, 0, none⟩) 2 2, Value.slice (some ⟨g16, 0, none⟩) 2 2, Value.slice (some ⟨g17, 0, none⟩) 2 2, Value.slice (some ⟨g18, 0, none⟩) 1 1, Value.slice (some ⟨g19, 0, none⟩) 2 2, Value.slice (some ⟨g20, 0, none⟩) 2 2]) (.int .i64 15)).run Try.prog w = .ok (Value.slice (some ⟨g12, 0, none⟩) 2 2) w := fun w => index_slices w _ 15 (by decide) rfl
  have c20 := (hc20.cell (block_lt_of_cell c0)).trans c0
  have hcl := clone_ints x20 _ _ hk20 (by decide)
  unfold IntsPost at hcl
  have HZ := Lib.hid (And.intro hc20 hcl)
  clear hc20 hk20 hcl c0
  go_wp2_with (go_at_call 71; (refine Calls.mono HZ.out.2 ?_); rintro e w9 ⟨A9, z9, rfl, ho9, hb9⟩; have H9 := Lib.hid (And.intro ho9 hb9); clear ho9 hb9)
  go_ret
  exact ⟨_, _, _, rfl, rfl, H9.out.1.sees, below_chain HT.out.2.2 (below_chain HZ.out.1 H9.out.2)⟩
set_option maxRecDepth 100000 in
set_option maxHeartbeats 4000000 in
theorem reads_16 (W : World) (p : Pln) (ctx K : Int) (h : Okp p ctx K) (at_ : Nat) (hat : at_ < p.places) (pos layer head row : Int) (hs : (⟨16, pos, layer, head, row⟩ : Stp.Stp) ∈ Stp.placeL p at_) :
    Calls Try.prog 37 #[.agg (planC p ctx K).toArray, .agg #[.int .i64 16, .int .i64 pos, .int .i64 layer, .int .i64 head, .int .i64 row]] W (ReadsPost W (readsL p.places ⟨16, pos, layer, head, row⟩)) := by
  obtain ⟨hb, f1, f2⟩ := h.facts
  have hpb : p.places ≤ 64 := by unfold Pln.places; omega
  have hok := ok_place hb (by omega) hs
  have hra := rat_of W p ctx K h at_ hat 16 pos layer head row hs hok.pos
  obtain ⟨w1, hw1⟩ : ∃ w1, w1 = (W.alloc (.cells (planC p ctx K).toArray 62)).alloc (.cells #[.int .i64 16, .int .i64 pos, .int .i64 layer, .int .i64 head, .int .i64 row] 69) := ⟨_, rfl⟩
  rw [← hw1] at hra
  have HW := Lib.hid hw1
  have HC := Lib.hid hra
  clear hw1 hra hs hok hb f1 f2 hpb hat
  go_enter Try.func37, Try.ntmps37
  go_upto_region 1 with fail
  rw [← HW.out]
  go_upto_region 3 with (first | (refine wpList_load_mid rfl 62 (.tmp 2) rfl W.heap.size 0 rfl (planC p ctx K) _ (rangeAt_whole HC.out.pl) Try.underlying62 rfl plan_size ?_; simp only [Act.put, List.setIfInBounds_toArray, List.set_cons_succ, List.set_cons_zero]) | (refine wpList_load_mid rfl 69 (.tmp 3) rfl (W.heap.size + 1) 0 rfl (Stp.Stp.cells ⟨16, pos, layer, head, row⟩) _ (rangeAt_whole HC.out.st) Try.underlying69 rfl step_size ?_; simp only [Act.put, List.setIfInBounds_toArray, List.set_cons_succ, List.set_cons_zero]) | (go_at_call 85; (with_reducible refine Calls.mono HC.out.has ?_); rintro e w2 ⟨rfl, hb2⟩; have HB := Lib.hid hb2; clear hb2))
  have hst2 := (HB.out.block _ (Array.getElem?_eq_some_iff.1 HC.out.st).1).trans HC.out.st
  have hpl2 := (HB.out.block _ (Array.getElem?_eq_some_iff.1 HC.out.pl).1).trans HC.out.pl
  have c0 : w2.cell? ⟨W.heap.size + 1, 0, none⟩ = some (.int .i64 16) := by rw [cell_of_row _ _ 0 _ _ _ hst2]; rfl
  have c1 : w2.cell? ⟨W.heap.size + 1, 1, none⟩ = some (.int .i64 pos) := by rw [cell_of_row _ _ 1 _ _ _ hst2]; rfl
  have c2 : w2.cell? ⟨W.heap.size + 1, 2, none⟩ = some (.int .i64 layer) := by rw [cell_of_row _ _ 2 _ _ _ hst2]; rfl
  have c4 : w2.cell? ⟨W.heap.size + 1, 4, none⟩ = some (.int .i64 row) := by rw [cell_of_row _ _ 4 _ _ _ hst2]; rfl
  have hb12 := HB.out
  have HT := Lib.hid (And.intro hst2 (And.intro hpl2 (below_chain HC.out.below HB.out)))
  clear hst2 hpl2 hb12
  go_upto_region 14 with fail
  refine wp_region_lit ?_
  clear c1 c2 c4
  refine wpList_ints rfl rfl [0] (by decide) (by decide) rfl #[(0, .int .i64 0)] (by simp only [List.map_toArray, List.map_cons, List.map_nil]; rfl) rfl ?_
  intro g0 x0 hi0 hb0 _
  have hc0 := hb0
  clear hi0 hb0
  simp only [Act.put, List.setIfInBounds_toArray, List.set_cons_succ, List.set_cons_zero]
  refine wpList_ints rfl rfl [1] (by decide) (by decide) rfl #[(0, .int .i64 1)] (by simp only [List.map_toArray, List.map_cons, List.map_nil]; rfl) rfl ?_
  intro g1 x1 hi1 hb1 _
  have hc1 := below_chain hc0 hb1
  clear hi1 hb1 hc0
  simp only [Act.put, List.setIfInBounds_toArray, List.set_cons_succ, List.set_cons_zero]
  refine wpList_ints rfl rfl [2, 3] (by decide) (by decide) rfl #[(0, .int .i64 2), (1, .int .i64 3)] (by simp only [List.map_toArray, List.map_cons, List.map_nil]; rfl) rfl ?_
  intro g2 x2 hi2 hb2 _
  have hc2 := below_chain hc1 hb2
  clear hi2 hb2 hc1
  simp only [Act.put, List.setIfInBounds_toArray, List.set_cons_succ, List.set_cons_zero]
  refine wpList_ints rfl rfl [2, 4] (by decide) (by decide) rfl #[(0, .int .i64 2), (1, .int .i64 4)] (by simp only [List.map_toArray, List.map_cons, List.map_nil]; rfl) rfl ?_
  intro g3 x3 hi3 hb3 _
  have hc3 := below_chain hc2 hb3
  clear hi3 hb3 hc2
  simp only [Act.put, List.setIfInBounds_toArray, List.set_cons_succ, List.set_cons_zero]
  refine wpList_ints rfl rfl [2, 5] (by decide) (by decide) rfl #[(0, .int .i64 2), (1, .int .i64 5)] (by simp only [List.map_toArray, List.map_cons, List.map_nil]; rfl) rfl ?_
  intro g4 x4 hi4 hb4 _
  have hc4 := below_chain hc3 hb4
  clear hi4 hb4 hc3
  simp only [Act.put, List.setIfInBounds_toArray, List.set_cons_succ, List.set_cons_zero]
  refine wpList_ints rfl rfl [3] (by decide) (by decide) rfl #[(0, .int .i64 3)] (by simp only [List.map_toArray, List.map_cons, List.map_nil]; rfl) rfl ?_
  intro g5 x5 hi5 hb5 _
  have hc5 := below_chain hc4 hb5
  clear hi5 hb5 hc4
  simp only [Act.put, List.setIfInBounds_toArray, List.set_cons_succ, List.set_cons_zero]
  refine wpList_ints rfl rfl [4] (by decide) (by decide) rfl #[(0, .int .i64 4)] (by simp only [List.map_toArray, List.map_cons, List.map_nil]; rfl) rfl ?_
  intro g6 x6 hi6 hb6 _
  have hc6 := below_chain hc5 hb6
  clear hi6 hb6 hc5
  simp only [Act.put, List.setIfInBounds_toArray, List.set_cons_succ, List.set_cons_zero]
  refine wpList_ints rfl rfl [5] (by decide) (by decide) rfl #[(0, .int .i64 5)] (by simp only [List.map_toArray, List.map_cons, List.map_nil]; rfl) rfl ?_
  intro g7 x7 hi7 hb7 _
  have hc7 := below_chain hc6 hb7
  clear hi7 hb7 hc6
  simp only [Act.put, List.setIfInBounds_toArray, List.set_cons_succ, List.set_cons_zero]
  refine wpList_ints rfl rfl [7] (by decide) (by decide) rfl #[(0, .int .i64 7)] (by simp only [List.map_toArray, List.map_cons, List.map_nil]; rfl) rfl ?_
  intro g8 x8 hi8 hb8 _
  have hc8 := below_chain hc7 hb8
  clear hi8 hb8 hc7
  simp only [Act.put, List.setIfInBounds_toArray, List.set_cons_succ, List.set_cons_zero]
  refine wpList_ints rfl rfl [6, 10] (by decide) (by decide) rfl #[(0, .int .i64 6), (1, .int .i64 10)] (by simp only [List.map_toArray, List.map_cons, List.map_nil]; rfl) rfl ?_
  intro g9 x9 hi9 hb9 _
  have hc9 := below_chain hc8 hb9
  clear hi9 hb9 hc8
  simp only [Act.put, List.setIfInBounds_toArray, List.set_cons_succ, List.set_cons_zero]
  refine wpList_ints rfl rfl [1, 10] (by decide) (by decide) rfl #[(0, .int .i64 1), (1, .int .i64 10)] (by simp only [List.map_toArray, List.map_cons, List.map_nil]; rfl) rfl ?_
  intro g10 x10 hi10 hb10 _
  have hc10 := below_chain hc9 hb10
  clear hi10 hb10 hc9
  simp only [Act.put, List.setIfInBounds_toArray, List.set_cons_succ, List.set_cons_zero]
  refine wpList_ints rfl rfl [1] (by decide) (by decide) rfl #[(0, .int .i64 1)] (by simp only [List.map_toArray, List.map_cons, List.map_nil]; rfl) rfl ?_
  intro g11 x11 hi11 hb11 _
  have hc11 := below_chain hc10 hb11
  clear hi11 hb11 hc10
  simp only [Act.put, List.setIfInBounds_toArray, List.set_cons_succ, List.set_cons_zero]
  refine wpList_ints rfl rfl [2, 8] (by decide) (by decide) rfl #[(0, .int .i64 2), (1, .int .i64 8)] (by simp only [List.map_toArray, List.map_cons, List.map_nil]; rfl) rfl ?_
  intro g12 x12 hi12 hb12 _
  have hc12 := below_chain hc11 hb12
  clear hi12 hb12 hc11
  simp only [Act.put, List.setIfInBounds_toArray, List.set_cons_succ, List.set_cons_zero]
  refine wpList_ints rfl rfl [8] (by decide) (by decide) rfl #[(0, .int .i64 8)] (by simp only [List.map_toArray, List.map_cons, List.map_nil]; rfl) rfl ?_
  intro g13 x13 hi13 hb13 _
  have hc13 := below_chain hc12 hb13
  clear hc12
  have hk13 := hi13
  clear hi13 hb13
  simp only [Act.put, List.setIfInBounds_toArray, List.set_cons_succ, List.set_cons_zero]
  refine wpList_ints rfl rfl [2, 9] (by decide) (by decide) rfl #[(0, .int .i64 2), (1, .int .i64 9)] (by simp only [List.map_toArray, List.map_cons, List.map_nil]; rfl) rfl ?_
  intro g14 x14 hi14 hb14 _
  have hc14 := below_chain hc13 hb14
  have hk14 := Ints.new hk13 hb14
  clear hc13 hk13 hi14 hb14
  simp only [Act.put, List.setIfInBounds_toArray, List.set_cons_succ, List.set_cons_zero]
  refine wpList_ints rfl rfl [8, 9] (by decide) (by decide) rfl #[(0, .int .i64 8), (1, .int .i64 9)] (by simp only [List.map_toArray, List.map_cons, List.map_nil]; rfl) rfl ?_
  intro g15 x15 hi15 hb15 _
  have hc15 := below_chain hc14 hb15
  have hk15 := Ints.new hk14 hb15
  clear hc14 hk14 hi15 hb15
  simp only [Act.put, List.setIfInBounds_toArray, List.set_cons_succ, List.set_cons_zero]
  refine wpList_ints rfl rfl [8, 10] (by decide) (by decide) rfl #[(0, .int .i64 8), (1, .int .i64 10)] (by simp only [List.map_toArray, List.map_cons, List.map_nil]; rfl) rfl ?_
  intro g16 x16 hi16 hb16 _
  have hc16 := below_chain hc15 hb16
  have hk16 := Ints.new hk15 hb16
  clear hc15 hk15 hi16 hb16
  simp only [Act.put, List.setIfInBounds_toArray, List.set_cons_succ, List.set_cons_zero]
  refine wpList_ints rfl rfl [1, 10] (by decide) (by decide) rfl #[(0, .int .i64 1), (1, .int .i64 10)] (by simp only [List.map_toArray, List.map_cons, List.map_nil]; rfl) rfl ?_
  intro g17 x17 hi17 hb17 _
  have hc17 := below_chain hc16 hb17
  have hk17 := Ints.new hk16 hb17
  clear hc16 hk16 hi17 hb17
  simp only [Act.put, List.setIfInBounds_toArray, List.set_cons_succ, List.set_cons_zero]
  refine wpList_ints rfl rfl [1] (by decide) (by decide) rfl #[(0, .int .i64 1)] (by simp only [List.map_toArray, List.map_cons, List.map_nil]; rfl) rfl ?_
  intro g18 x18 hi18 hb18 _
  have hc18 := below_chain hc17 hb18
  have hk18 := Ints.new hk17 hb18
  clear hc17 hk17 hi18 hb18
  simp only [Act.put, List.setIfInBounds_toArray, List.set_cons_succ, List.set_cons_zero]
  refine wpList_ints rfl rfl [2, 11] (by decide) (by decide) rfl #[(0, .int .i64 2), (1, .int .i64 11)] (by simp only [List.map_toArray, List.map_cons, List.map_nil]; rfl) rfl ?_
  intro g19 x19 hi19 hb19 _
  have hc19 := below_chain hc18 hb19
  have hk19 := Ints.new hk18 hb19
  clear hc18 hk18 hi19 hb19
  simp only [Act.put, List.setIfInBounds_toArray, List.set_cons_succ, List.set_cons_zero]
  refine wpList_ints rfl rfl [11, 0] (by decide) (by decide) rfl #[(0, .int .i64 11), (1, .int .i64 0)] (by simp only [List.map_toArray, List.map_cons, List.map_nil]; rfl) rfl ?_
  intro g20 x20 hi20 hb20 _
  have hc20 := below_chain hc19 hb20
  have hk20 := Ints.new hk19 hb20
  clear hc19 hk19 hi20 hb20
  simp only [Act.put, List.setIfInBounds_toArray, List.set_cons_succ, List.set_cons_zero]
  have hix : ∀ w, (Instr.index 162 (.agg #[Value.slice none 0 0, Value.slice (some ⟨g0, 0, none⟩) 1 1, Value.slice (some ⟨g1, 0, none⟩) 1 1, Value.slice (some ⟨g2, 0, none⟩) 2 2, Value.slice (some ⟨g3, 0, none⟩) 2 2, Value.slice (some ⟨g4, 0, none⟩) 2 2, Value.slice (some ⟨g5, 0, none⟩) 1 1, Value.slice (some ⟨g6, 0, none⟩) 1 1, Value.slice (some ⟨g7, 0, none⟩) 1 1, Value.slice none 0 0, Value.slice (some ⟨g8, 0, none⟩) 1 1, Value.slice none 0 0, Value.slice (some ⟨g9, 0, none⟩) 2 2, Value.slice (some ⟨g10, 0, none⟩) 2 2, Value.slice (some ⟨g11, 0, none⟩) 1 1, Value.slice (some ⟨g12, 0, none⟩) 2 2, Value.slice (some ⟨g13, 0, none⟩) 1 1, Value.slice (some ⟨g14, 0, none⟩) 2 2, Value.slice (some ⟨g15, 0, none⟩) 2 2, Value.slice (some ⟨g16, 0, none⟩) 2 2, Value.slice (some ⟨g17, 0, none⟩) 2 2, Value.slice (some ⟨g18, 0, none⟩) 1 1, Value.slice (some ⟨g19, 0, none⟩) 2 2, Value.slice (some ⟨g20, 0, none⟩) 2 2]) (.int .i64 16)).run Try.prog w = .ok (Value.slice (some ⟨g13, 0, none⟩) 1 1) w := fun w => index_slices w _ 16 (by decide) rfl
  have c20 := (hc20.cell (block_lt_of_cell c0)).trans c0
  have hcl := clone_ints x20 _ _ hk20 (by decide)
  unfold IntsPost at hcl
  have HZ := Lib.hid (And.intro hc20 hcl)
  clear hc20 hk20 hcl c0
  go_wp2_with (go_at_call 71; (refine Calls.mono HZ.out.2 ?_); rintro e w9 ⟨A9, z9, rfl, ho9, hb9⟩; have H9 := Lib.hid (And.intro ho9 hb9); clear ho9 hb9)
  go_ret
  exact ⟨_, _, _, rfl, rfl, H9.out.1.sees, below_chain HT.out.2.2 (below_chain HZ.out.1 H9.out.2)⟩
set_option maxRecDepth 100000 in
set_option maxHeartbeats 4000000 in
theorem reads_17 (W : World) (p : Pln) (ctx K : Int) (h : Okp p ctx K) (at_ : Nat) (hat : at_ < p.places) (pos layer head row : Int) (hs : (⟨17, pos, layer, head, row⟩ : Stp.Stp) ∈ Stp.placeL p at_) :
    Calls Try.prog 37 #[.agg (planC p ctx K).toArray, .agg #[.int .i64 17, .int .i64 pos, .int .i64 layer, .int .i64 head, .int .i64 row]] W (ReadsPost W (readsL p.places ⟨17, pos, layer, head, row⟩)) := by
  obtain ⟨hb, f1, f2⟩ := h.facts
  have hpb : p.places ≤ 64 := by unfold Pln.places; omega
  have hok := ok_place hb (by omega) hs
  have hra := rat_of W p ctx K h at_ hat 17 pos layer head row hs hok.pos
  obtain ⟨w1, hw1⟩ : ∃ w1, w1 = (W.alloc (.cells (planC p ctx K).toArray 62)).alloc (.cells #[.int .i64 17, .int .i64 pos, .int .i64 layer, .int .i64 head, .int .i64 row] 69) := ⟨_, rfl⟩
  rw [← hw1] at hra
  have HW := Lib.hid hw1
  have HC := Lib.hid hra
  clear hw1 hra hs hok hb f1 f2 hpb hat
  go_enter Try.func37, Try.ntmps37
  go_upto_region 1 with fail
  rw [← HW.out]
  go_upto_region 3 with (first | (refine wpList_load_mid rfl 62 (.tmp 2) rfl W.heap.size 0 rfl (planC p ctx K) _ (rangeAt_whole HC.out.pl) Try.underlying62 rfl plan_size ?_; simp only [Act.put, List.setIfInBounds_toArray, List.set_cons_succ, List.set_cons_zero]) | (refine wpList_load_mid rfl 69 (.tmp 3) rfl (W.heap.size + 1) 0 rfl (Stp.Stp.cells ⟨17, pos, layer, head, row⟩) _ (rangeAt_whole HC.out.st) Try.underlying69 rfl step_size ?_; simp only [Act.put, List.setIfInBounds_toArray, List.set_cons_succ, List.set_cons_zero]) | (go_at_call 85; (with_reducible refine Calls.mono HC.out.has ?_); rintro e w2 ⟨rfl, hb2⟩; have HB := Lib.hid hb2; clear hb2))
  have hst2 := (HB.out.block _ (Array.getElem?_eq_some_iff.1 HC.out.st).1).trans HC.out.st
  have hpl2 := (HB.out.block _ (Array.getElem?_eq_some_iff.1 HC.out.pl).1).trans HC.out.pl
  have c0 : w2.cell? ⟨W.heap.size + 1, 0, none⟩ = some (.int .i64 17) := by rw [cell_of_row _ _ 0 _ _ _ hst2]; rfl
  have c1 : w2.cell? ⟨W.heap.size + 1, 1, none⟩ = some (.int .i64 pos) := by rw [cell_of_row _ _ 1 _ _ _ hst2]; rfl
  have c2 : w2.cell? ⟨W.heap.size + 1, 2, none⟩ = some (.int .i64 layer) := by rw [cell_of_row _ _ 2 _ _ _ hst2]; rfl
  have c4 : w2.cell? ⟨W.heap.size + 1, 4, none⟩ = some (.int .i64 row) := by rw [cell_of_row _ _ 4 _ _ _ hst2]; rfl
  have hb12 := HB.out
  have HT := Lib.hid (And.intro hst2 (And.intro hpl2 (below_chain HC.out.below HB.out)))
  clear hst2 hpl2 hb12
  go_upto_region 14 with fail
  refine wp_region_lit ?_
  clear c1 c2 c4
  refine wpList_ints rfl rfl [0] (by decide) (by decide) rfl #[(0, .int .i64 0)] (by simp only [List.map_toArray, List.map_cons, List.map_nil]; rfl) rfl ?_
  intro g0 x0 hi0 hb0 _
  have hc0 := hb0
  clear hi0 hb0
  simp only [Act.put, List.setIfInBounds_toArray, List.set_cons_succ, List.set_cons_zero]
  refine wpList_ints rfl rfl [1] (by decide) (by decide) rfl #[(0, .int .i64 1)] (by simp only [List.map_toArray, List.map_cons, List.map_nil]; rfl) rfl ?_
  intro g1 x1 hi1 hb1 _
  have hc1 := below_chain hc0 hb1
  clear hi1 hb1 hc0
  simp only [Act.put, List.setIfInBounds_toArray, List.set_cons_succ, List.set_cons_zero]
  refine wpList_ints rfl rfl [2, 3] (by decide) (by decide) rfl #[(0, .int .i64 2), (1, .int .i64 3)] (by simp only [List.map_toArray, List.map_cons, List.map_nil]; rfl) rfl ?_
  intro g2 x2 hi2 hb2 _
  have hc2 := below_chain hc1 hb2
  clear hi2 hb2 hc1
  simp only [Act.put, List.setIfInBounds_toArray, List.set_cons_succ, List.set_cons_zero]
  refine wpList_ints rfl rfl [2, 4] (by decide) (by decide) rfl #[(0, .int .i64 2), (1, .int .i64 4)] (by simp only [List.map_toArray, List.map_cons, List.map_nil]; rfl) rfl ?_
  intro g3 x3 hi3 hb3 _
  have hc3 := below_chain hc2 hb3
  clear hi3 hb3 hc2
  simp only [Act.put, List.setIfInBounds_toArray, List.set_cons_succ, List.set_cons_zero]
  refine wpList_ints rfl rfl [2, 5] (by decide) (by decide) rfl #[(0, .int .i64 2), (1, .int .i64 5)] (by simp only [List.map_toArray, List.map_cons, List.map_nil]; rfl) rfl ?_
  intro g4 x4 hi4 hb4 _
  have hc4 := below_chain hc3 hb4
  clear hi4 hb4 hc3
  simp only [Act.put, List.setIfInBounds_toArray, List.set_cons_succ, List.set_cons_zero]
  refine wpList_ints rfl rfl [3] (by decide) (by decide) rfl #[(0, .int .i64 3)] (by simp only [List.map_toArray, List.map_cons, List.map_nil]; rfl) rfl ?_
  intro g5 x5 hi5 hb5 _
  have hc5 := below_chain hc4 hb5
  clear hi5 hb5 hc4
  simp only [Act.put, List.setIfInBounds_toArray, List.set_cons_succ, List.set_cons_zero]
  refine wpList_ints rfl rfl [4] (by decide) (by decide) rfl #[(0, .int .i64 4)] (by simp only [List.map_toArray, List.map_cons, List.map_nil]; rfl) rfl ?_
  intro g6 x6 hi6 hb6 _
  have hc6 := below_chain hc5 hb6
  clear hi6 hb6 hc5
  simp only [Act.put, List.setIfInBounds_toArray, List.set_cons_succ, List.set_cons_zero]
  refine wpList_ints rfl rfl [5] (by decide) (by decide) rfl #[(0, .int .i64 5)] (by simp only [List.map_toArray, List.map_cons, List.map_nil]; rfl) rfl ?_
  intro g7 x7 hi7 hb7 _
  have hc7 := below_chain hc6 hb7
  clear hi7 hb7 hc6
  simp only [Act.put, List.setIfInBounds_toArray, List.set_cons_succ, List.set_cons_zero]
  refine wpList_ints rfl rfl [7] (by decide) (by decide) rfl #[(0, .int .i64 7)] (by simp only [List.map_toArray, List.map_cons, List.map_nil]; rfl) rfl ?_
  intro g8 x8 hi8 hb8 _
  have hc8 := below_chain hc7 hb8
  clear hi8 hb8 hc7
  simp only [Act.put, List.setIfInBounds_toArray, List.set_cons_succ, List.set_cons_zero]
  refine wpList_ints rfl rfl [6, 10] (by decide) (by decide) rfl #[(0, .int .i64 6), (1, .int .i64 10)] (by simp only [List.map_toArray, List.map_cons, List.map_nil]; rfl) rfl ?_
  intro g9 x9 hi9 hb9 _
  have hc9 := below_chain hc8 hb9
  clear hi9 hb9 hc8
  simp only [Act.put, List.setIfInBounds_toArray, List.set_cons_succ, List.set_cons_zero]
  refine wpList_ints rfl rfl [1, 10] (by decide) (by decide) rfl #[(0, .int .i64 1), (1, .int .i64 10)] (by simp only [List.map_toArray, List.map_cons, List.map_nil]; rfl) rfl ?_
  intro g10 x10 hi10 hb10 _
  have hc10 := below_chain hc9 hb10
  clear hi10 hb10 hc9
  simp only [Act.put, List.setIfInBounds_toArray, List.set_cons_succ, List.set_cons_zero]
  refine wpList_ints rfl rfl [1] (by decide) (by decide) rfl #[(0, .int .i64 1)] (by simp only [List.map_toArray, List.map_cons, List.map_nil]; rfl) rfl ?_
  intro g11 x11 hi11 hb11 _
  have hc11 := below_chain hc10 hb11
  clear hi11 hb11 hc10
  simp only [Act.put, List.setIfInBounds_toArray, List.set_cons_succ, List.set_cons_zero]
  refine wpList_ints rfl rfl [2, 8] (by decide) (by decide) rfl #[(0, .int .i64 2), (1, .int .i64 8)] (by simp only [List.map_toArray, List.map_cons, List.map_nil]; rfl) rfl ?_
  intro g12 x12 hi12 hb12 _
  have hc12 := below_chain hc11 hb12
  clear hi12 hb12 hc11
  simp only [Act.put, List.setIfInBounds_toArray, List.set_cons_succ, List.set_cons_zero]
  refine wpList_ints rfl rfl [8] (by decide) (by decide) rfl #[(0, .int .i64 8)] (by simp only [List.map_toArray, List.map_cons, List.map_nil]; rfl) rfl ?_
  intro g13 x13 hi13 hb13 _
  have hc13 := below_chain hc12 hb13
  clear hi13 hb13 hc12
  simp only [Act.put, List.setIfInBounds_toArray, List.set_cons_succ, List.set_cons_zero]
  refine wpList_ints rfl rfl [2, 9] (by decide) (by decide) rfl #[(0, .int .i64 2), (1, .int .i64 9)] (by simp only [List.map_toArray, List.map_cons, List.map_nil]; rfl) rfl ?_
  intro g14 x14 hi14 hb14 _
  have hc14 := below_chain hc13 hb14
  clear hc13
  have hk14 := hi14
  clear hi14 hb14
  simp only [Act.put, List.setIfInBounds_toArray, List.set_cons_succ, List.set_cons_zero]
  refine wpList_ints rfl rfl [8, 9] (by decide) (by decide) rfl #[(0, .int .i64 8), (1, .int .i64 9)] (by simp only [List.map_toArray, List.map_cons, List.map_nil]; rfl) rfl ?_
  intro g15 x15 hi15 hb15 _
  have hc15 := below_chain hc14 hb15
  have hk15 := Ints.new hk14 hb15
  clear hc14 hk14 hi15 hb15
  simp only [Act.put, List.setIfInBounds_toArray, List.set_cons_succ, List.set_cons_zero]
  refine wpList_ints rfl rfl [8, 10] (by decide) (by decide) rfl #[(0, .int .i64 8), (1, .int .i64 10)] (by simp only [List.map_toArray, List.map_cons, List.map_nil]; rfl) rfl ?_
  intro g16 x16 hi16 hb16 _
  have hc16 := below_chain hc15 hb16
  have hk16 := Ints.new hk15 hb16
  clear hc15 hk15 hi16 hb16
  simp only [Act.put, List.setIfInBounds_toArray, List.set_cons_succ, List.set_cons_zero]
  refine wpList_ints rfl rfl [1, 10] (by decide) (by decide) rfl #[(0, .int .i64 1), (1, .int .i64 10)] (by simp only [List.map_toArray, List.map_cons, List.map_nil]; rfl) rfl ?_
  intro g17 x17 hi17 hb17 _
  have hc17 := below_chain hc16 hb17
  have hk17 := Ints.new hk16 hb17
  clear hc16 hk16 hi17 hb17
  simp only [Act.put, List.setIfInBounds_toArray, List.set_cons_succ, List.set_cons_zero]
  refine wpList_ints rfl rfl [1] (by decide) (by decide) rfl #[(0, .int .i64 1)] (by simp only [List.map_toArray, List.map_cons, List.map_nil]; rfl) rfl ?_
  intro g18 x18 hi18 hb18 _
  have hc18 := below_chain hc17 hb18
  have hk18 := Ints.new hk17 hb18
  clear hc17 hk17 hi18 hb18
  simp only [Act.put, List.setIfInBounds_toArray, List.set_cons_succ, List.set_cons_zero]
  refine wpList_ints rfl rfl [2, 11] (by decide) (by decide) rfl #[(0, .int .i64 2), (1, .int .i64 11)] (by simp only [List.map_toArray, List.map_cons, List.map_nil]; rfl) rfl ?_
  intro g19 x19 hi19 hb19 _
  have hc19 := below_chain hc18 hb19
  have hk19 := Ints.new hk18 hb19
  clear hc18 hk18 hi19 hb19
  simp only [Act.put, List.setIfInBounds_toArray, List.set_cons_succ, List.set_cons_zero]
  refine wpList_ints rfl rfl [11, 0] (by decide) (by decide) rfl #[(0, .int .i64 11), (1, .int .i64 0)] (by simp only [List.map_toArray, List.map_cons, List.map_nil]; rfl) rfl ?_
  intro g20 x20 hi20 hb20 _
  have hc20 := below_chain hc19 hb20
  have hk20 := Ints.new hk19 hb20
  clear hc19 hk19 hi20 hb20
  simp only [Act.put, List.setIfInBounds_toArray, List.set_cons_succ, List.set_cons_zero]
  have hix : ∀ w, (Instr.index 162 (.agg #[Value.slice none 0 0, Value.slice (some ⟨g0, 0, none⟩) 1 1, Value.slice (some ⟨g1, 0, none⟩) 1 1, Value.slice (some ⟨g2, 0, none⟩) 2 2, Value.slice (some ⟨g3, 0, none⟩) 2 2, Value.slice (some ⟨g4, 0, none⟩) 2 2, Value.slice (some ⟨g5, 0, none⟩) 1 1, Value.slice (some ⟨g6, 0, none⟩) 1 1, Value.slice (some ⟨g7, 0, none⟩) 1 1, Value.slice none 0 0, Value.slice (some ⟨g8, 0, none⟩) 1 1, Value.slice none 0 0, Value.slice (some ⟨g9, 0, none⟩) 2 2, Value.slice (some ⟨g10, 0, none⟩) 2 2, Value.slice (some ⟨g11, 0, none⟩) 1 1, Value.slice (some ⟨g12, 0, none⟩) 2 2, Value.slice (some ⟨g13, 0, none⟩) 1 1, Value.slice (some ⟨g14, 0, none⟩) 2 2, Value.slice (some ⟨g15, 0, none⟩) 2 2, Value.slice (some ⟨g16, 0, none⟩) 2 2, Value.slice (some ⟨g17, 0, none⟩) 2 2, Value.slice (some ⟨g18, 0, none⟩) 1 1, Value.slice (some ⟨g19, 0, none⟩) 2 2, Value.slice (some ⟨g20, 0, none⟩) 2 2]) (.int .i64 17)).run Try.prog w = .ok (Value.slice (some ⟨g14, 0, none⟩) 2 2) w := fun w => index_slices w _ 17 (by decide) rfl
  have c20 := (hc20.cell (block_lt_of_cell c0)).trans c0
  have hcl := clone_ints x20 _ _ hk20 (by decide)
  unfold IntsPost at hcl
  have HZ := Lib.hid (And.intro hc20 hcl)
  clear hc20 hk20 hcl c0
  go_wp2_with (go_at_call 71; (refine Calls.mono HZ.out.2 ?_); rintro e w9 ⟨A9, z9, rfl, ho9, hb9⟩; have H9 := Lib.hid (And.intro ho9 hb9); clear ho9 hb9)
  go_ret
  exact ⟨_, _, _, rfl, rfl, H9.out.1.sees, below_chain HT.out.2.2 (below_chain HZ.out.1 H9.out.2)⟩
set_option maxRecDepth 100000 in
set_option maxHeartbeats 4000000 in
theorem reads_18 (W : World) (p : Pln) (ctx K : Int) (h : Okp p ctx K) (at_ : Nat) (hat : at_ < p.places) (pos layer head row : Int) (hs : (⟨18, pos, layer, head, row⟩ : Stp.Stp) ∈ Stp.placeL p at_) :
    Calls Try.prog 37 #[.agg (planC p ctx K).toArray, .agg #[.int .i64 18, .int .i64 pos, .int .i64 layer, .int .i64 head, .int .i64 row]] W (ReadsPost W (readsL p.places ⟨18, pos, layer, head, row⟩)) := by
  obtain ⟨hb, f1, f2⟩ := h.facts
  have hpb : p.places ≤ 64 := by unfold Pln.places; omega
  have hok := ok_place hb (by omega) hs
  have hra := rat_of W p ctx K h at_ hat 18 pos layer head row hs hok.pos
  obtain ⟨w1, hw1⟩ : ∃ w1, w1 = (W.alloc (.cells (planC p ctx K).toArray 62)).alloc (.cells #[.int .i64 18, .int .i64 pos, .int .i64 layer, .int .i64 head, .int .i64 row] 69) := ⟨_, rfl⟩
  rw [← hw1] at hra
  have HW := Lib.hid hw1
  have HC := Lib.hid hra
  clear hw1 hra hs hok hb f1 f2 hpb hat
  go_enter Try.func37, Try.ntmps37
  go_upto_region 1 with fail
  rw [← HW.out]
  go_upto_region 3 with (first | (refine wpList_load_mid rfl 62 (.tmp 2) rfl W.heap.size 0 rfl (planC p ctx K) _ (rangeAt_whole HC.out.pl) Try.underlying62 rfl plan_size ?_; simp only [Act.put, List.setIfInBounds_toArray, List.set_cons_succ, List.set_cons_zero]) | (refine wpList_load_mid rfl 69 (.tmp 3) rfl (W.heap.size + 1) 0 rfl (Stp.Stp.cells ⟨18, pos, layer, head, row⟩) _ (rangeAt_whole HC.out.st) Try.underlying69 rfl step_size ?_; simp only [Act.put, List.setIfInBounds_toArray, List.set_cons_succ, List.set_cons_zero]) | (go_at_call 85; (with_reducible refine Calls.mono HC.out.has ?_); rintro e w2 ⟨rfl, hb2⟩; have HB := Lib.hid hb2; clear hb2))
  have hst2 := (HB.out.block _ (Array.getElem?_eq_some_iff.1 HC.out.st).1).trans HC.out.st
  have hpl2 := (HB.out.block _ (Array.getElem?_eq_some_iff.1 HC.out.pl).1).trans HC.out.pl
  have c0 : w2.cell? ⟨W.heap.size + 1, 0, none⟩ = some (.int .i64 18) := by rw [cell_of_row _ _ 0 _ _ _ hst2]; rfl
  have c1 : w2.cell? ⟨W.heap.size + 1, 1, none⟩ = some (.int .i64 pos) := by rw [cell_of_row _ _ 1 _ _ _ hst2]; rfl
  have c2 : w2.cell? ⟨W.heap.size + 1, 2, none⟩ = some (.int .i64 layer) := by rw [cell_of_row _ _ 2 _ _ _ hst2]; rfl
  have c4 : w2.cell? ⟨W.heap.size + 1, 4, none⟩ = some (.int .i64 row) := by rw [cell_of_row _ _ 4 _ _ _ hst2]; rfl
  have hb12 := HB.out
  have HT := Lib.hid (And.intro hst2 (And.intro hpl2 (below_chain HC.out.below HB.out)))
  clear hst2 hpl2 hb12
  go_upto_region 14 with fail
  refine wp_region_lit ?_
  clear c1 c2 c4
  refine wpList_ints rfl rfl [0] (by decide) (by decide) rfl #[(0, .int .i64 0)] (by simp only [List.map_toArray, List.map_cons, List.map_nil]; rfl) rfl ?_
  intro g0 x0 hi0 hb0 _
  have hc0 := hb0
  clear hi0 hb0
  simp only [Act.put, List.setIfInBounds_toArray, List.set_cons_succ, List.set_cons_zero]
  refine wpList_ints rfl rfl [1] (by decide) (by decide) rfl #[(0, .int .i64 1)] (by simp only [List.map_toArray, List.map_cons, List.map_nil]; rfl) rfl ?_
  intro g1 x1 hi1 hb1 _
  have hc1 := below_chain hc0 hb1
  clear hi1 hb1 hc0
  simp only [Act.put, List.setIfInBounds_toArray, List.set_cons_succ, List.set_cons_zero]
  refine wpList_ints rfl rfl [2, 3] (by decide) (by decide) rfl #[(0, .int .i64 2), (1, .int .i64 3)] (by simp only [List.map_toArray, List.map_cons, List.map_nil]; rfl) rfl ?_
  intro g2 x2 hi2 hb2 _
  have hc2 := below_chain hc1 hb2
  clear hi2 hb2 hc1
  simp only [Act.put, List.setIfInBounds_toArray, List.set_cons_succ, List.set_cons_zero]
  refine wpList_ints rfl rfl [2, 4] (by decide) (by decide) rfl #[(0, .int .i64 2), (1, .int .i64 4)] (by simp only [List.map_toArray, List.map_cons, List.map_nil]; rfl) rfl ?_
  intro g3 x3 hi3 hb3 _
  have hc3 := below_chain hc2 hb3
  clear hi3 hb3 hc2
  simp only [Act.put, List.setIfInBounds_toArray, List.set_cons_succ, List.set_cons_zero]
  refine wpList_ints rfl rfl [2, 5] (by decide) (by decide) rfl #[(0, .int .i64 2), (1, .int .i64 5)] (by simp only [List.map_toArray, List.map_cons, List.map_nil]; rfl) rfl ?_
  intro g4 x4 hi4 hb4 _
  have hc4 := below_chain hc3 hb4
  clear hi4 hb4 hc3
  simp only [Act.put, List.setIfInBounds_toArray, List.set_cons_succ, List.set_cons_zero]
  refine wpList_ints rfl rfl [3] (by decide) (by decide) rfl #[(0, .int .i64 3)] (by simp only [List.map_toArray, List.map_cons, List.map_nil]; rfl) rfl ?_
  intro g5 x5 hi5 hb5 _
  have hc5 := below_chain hc4 hb5
  clear hi5 hb5 hc4
  simp only [Act.put, List.setIfInBounds_toArray, List.set_cons_succ, List.set_cons_zero]
  refine wpList_ints rfl rfl [4] (by decide) (by decide) rfl #[(0, .int .i64 4)] (by simp only [List.map_toArray, List.map_cons, List.map_nil]; rfl) rfl ?_
  intro g6 x6 hi6 hb6 _
  have hc6 := below_chain hc5 hb6
  clear hi6 hb6 hc5
  simp only [Act.put, List.setIfInBounds_toArray, List.set_cons_succ, List.set_cons_zero]
  refine wpList_ints rfl rfl [5] (by decide) (by decide) rfl #[(0, .int .i64 5)] (by simp only [List.map_toArray, List.map_cons, List.map_nil]; rfl) rfl ?_
  intro g7 x7 hi7 hb7 _
  have hc7 := below_chain hc6 hb7
  clear hi7 hb7 hc6
  simp only [Act.put, List.setIfInBounds_toArray, List.set_cons_succ, List.set_cons_zero]
  refine wpList_ints rfl rfl [7] (by decide) (by decide) rfl #[(0, .int .i64 7)] (by simp only [List.map_toArray, List.map_cons, List.map_nil]; rfl) rfl ?_
  intro g8 x8 hi8 hb8 _
  have hc8 := below_chain hc7 hb8
  clear hi8 hb8 hc7
  simp only [Act.put, List.setIfInBounds_toArray, List.set_cons_succ, List.set_cons_zero]
  refine wpList_ints rfl rfl [6, 10] (by decide) (by decide) rfl #[(0, .int .i64 6), (1, .int .i64 10)] (by simp only [List.map_toArray, List.map_cons, List.map_nil]; rfl) rfl ?_
  intro g9 x9 hi9 hb9 _
  have hc9 := below_chain hc8 hb9
  clear hi9 hb9 hc8
  simp only [Act.put, List.setIfInBounds_toArray, List.set_cons_succ, List.set_cons_zero]
  refine wpList_ints rfl rfl [1, 10] (by decide) (by decide) rfl #[(0, .int .i64 1), (1, .int .i64 10)] (by simp only [List.map_toArray, List.map_cons, List.map_nil]; rfl) rfl ?_
  intro g10 x10 hi10 hb10 _
  have hc10 := below_chain hc9 hb10
  clear hi10 hb10 hc9
  simp only [Act.put, List.setIfInBounds_toArray, List.set_cons_succ, List.set_cons_zero]
  refine wpList_ints rfl rfl [1] (by decide) (by decide) rfl #[(0, .int .i64 1)] (by simp only [List.map_toArray, List.map_cons, List.map_nil]; rfl) rfl ?_
  intro g11 x11 hi11 hb11 _
  have hc11 := below_chain hc10 hb11
  clear hi11 hb11 hc10
  simp only [Act.put, List.setIfInBounds_toArray, List.set_cons_succ, List.set_cons_zero]
  refine wpList_ints rfl rfl [2, 8] (by decide) (by decide) rfl #[(0, .int .i64 2), (1, .int .i64 8)] (by simp only [List.map_toArray, List.map_cons, List.map_nil]; rfl) rfl ?_
  intro g12 x12 hi12 hb12 _
  have hc12 := below_chain hc11 hb12
  clear hi12 hb12 hc11
  simp only [Act.put, List.setIfInBounds_toArray, List.set_cons_succ, List.set_cons_zero]
  refine wpList_ints rfl rfl [8] (by decide) (by decide) rfl #[(0, .int .i64 8)] (by simp only [List.map_toArray, List.map_cons, List.map_nil]; rfl) rfl ?_
  intro g13 x13 hi13 hb13 _
  have hc13 := below_chain hc12 hb13
  clear hi13 hb13 hc12
  simp only [Act.put, List.setIfInBounds_toArray, List.set_cons_succ, List.set_cons_zero]
  refine wpList_ints rfl rfl [2, 9] (by decide) (by decide) rfl #[(0, .int .i64 2), (1, .int .i64 9)] (by simp only [List.map_toArray, List.map_cons, List.map_nil]; rfl) rfl ?_
  intro g14 x14 hi14 hb14 _
  have hc14 := below_chain hc13 hb14
  clear hi14 hb14 hc13
  simp only [Act.put, List.setIfInBounds_toArray, List.set_cons_succ, List.set_cons_zero]
  refine wpList_ints rfl rfl [8, 9] (by decide) (by decide) rfl #[(0, .int .i64 8), (1, .int .i64 9)] (by simp only [List.map_toArray, List.map_cons, List.map_nil]; rfl) rfl ?_
  intro g15 x15 hi15 hb15 _
  have hc15 := below_chain hc14 hb15
  clear hc14
  have hk15 := hi15
  clear hi15 hb15
  simp only [Act.put, List.setIfInBounds_toArray, List.set_cons_succ, List.set_cons_zero]
  refine wpList_ints rfl rfl [8, 10] (by decide) (by decide) rfl #[(0, .int .i64 8), (1, .int .i64 10)] (by simp only [List.map_toArray, List.map_cons, List.map_nil]; rfl) rfl ?_
  intro g16 x16 hi16 hb16 _
  have hc16 := below_chain hc15 hb16
  have hk16 := Ints.new hk15 hb16
  clear hc15 hk15 hi16 hb16
  simp only [Act.put, List.setIfInBounds_toArray, List.set_cons_succ, List.set_cons_zero]
  refine wpList_ints rfl rfl [1, 10] (by decide) (by decide) rfl #[(0, .int .i64 1), (1, .int .i64 10)] (by simp only [List.map_toArray, List.map_cons, List.map_nil]; rfl) rfl ?_
  intro g17 x17 hi17 hb17 _
  have hc17 := below_chain hc16 hb17
  have hk17 := Ints.new hk16 hb17
  clear hc16 hk16 hi17 hb17
  simp only [Act.put, List.setIfInBounds_toArray, List.set_cons_succ, List.set_cons_zero]
  refine wpList_ints rfl rfl [1] (by decide) (by decide) rfl #[(0, .int .i64 1)] (by simp only [List.map_toArray, List.map_cons, List.map_nil]; rfl) rfl ?_
  intro g18 x18 hi18 hb18 _
  have hc18 := below_chain hc17 hb18
  have hk18 := Ints.new hk17 hb18
  clear hc17 hk17 hi18 hb18
  simp only [Act.put, List.setIfInBounds_toArray, List.set_cons_succ, List.set_cons_zero]
  refine wpList_ints rfl rfl [2, 11] (by decide) (by decide) rfl #[(0, .int .i64 2), (1, .int .i64 11)] (by simp only [List.map_toArray, List.map_cons, List.map_nil]; rfl) rfl ?_
  intro g19 x19 hi19 hb19 _
  have hc19 := below_chain hc18 hb19
  have hk19 := Ints.new hk18 hb19
  clear hc18 hk18 hi19 hb19
  simp only [Act.put, List.setIfInBounds_toArray, List.set_cons_succ, List.set_cons_zero]
  refine wpList_ints rfl rfl [11, 0] (by decide) (by decide) rfl #[(0, .int .i64 11), (1, .int .i64 0)] (by simp only [List.map_toArray, List.map_cons, List.map_nil]; rfl) rfl ?_
  intro g20 x20 hi20 hb20 _
  have hc20 := below_chain hc19 hb20
  have hk20 := Ints.new hk19 hb20
  clear hc19 hk19 hi20 hb20
  simp only [Act.put, List.setIfInBounds_toArray, List.set_cons_succ, List.set_cons_zero]
  have hix : ∀ w, (Instr.index 162 (.agg #[Value.slice none 0 0, Value.slice (some ⟨g0, 0, none⟩) 1 1, Value.slice (some ⟨g1, 0, none⟩) 1 1, Value.slice (some ⟨g2, 0, none⟩) 2 2, Value.slice (some ⟨g3, 0, none⟩) 2 2, Value.slice (some ⟨g4, 0, none⟩) 2 2, Value.slice (some ⟨g5, 0, none⟩) 1 1, Value.slice (some ⟨g6, 0, none⟩) 1 1, Value.slice (some ⟨g7, 0, none⟩) 1 1, Value.slice none 0 0, Value.slice (some ⟨g8, 0, none⟩) 1 1, Value.slice none 0 0, Value.slice (some ⟨g9, 0, none⟩) 2 2, Value.slice (some ⟨g10, 0, none⟩) 2 2, Value.slice (some ⟨g11, 0, none⟩) 1 1, Value.slice (some ⟨g12, 0, none⟩) 2 2, Value.slice (some ⟨g13, 0, none⟩) 1 1, Value.slice (some ⟨g14, 0, none⟩) 2 2, Value.slice (some ⟨g15, 0, none⟩) 2 2, Value.slice (some ⟨g16, 0, none⟩) 2 2, Value.slice (some ⟨g17, 0, none⟩) 2 2, Value.slice (some ⟨g18, 0, none⟩) 1 1, Value.slice (some ⟨g19, 0, none⟩) 2 2, Value.slice (some ⟨g20, 0, none⟩) 2 2]) (.int .i64 18)).run Try.prog w = .ok (Value.slice (some ⟨g15, 0, none⟩) 2 2) w := fun w => index_slices w _ 18 (by decide) rfl
  have c20 := (hc20.cell (block_lt_of_cell c0)).trans c0
  have hcl := clone_ints x20 _ _ hk20 (by decide)
  unfold IntsPost at hcl
  have HZ := Lib.hid (And.intro hc20 hcl)
  clear hc20 hk20 hcl c0
  go_wp2_with (go_at_call 71; (refine Calls.mono HZ.out.2 ?_); rintro e w9 ⟨A9, z9, rfl, ho9, hb9⟩; have H9 := Lib.hid (And.intro ho9 hb9); clear ho9 hb9)
  go_ret
  exact ⟨_, _, _, rfl, rfl, H9.out.1.sees, below_chain HT.out.2.2 (below_chain HZ.out.1 H9.out.2)⟩
set_option maxRecDepth 100000 in
set_option maxHeartbeats 4000000 in
theorem reads_19 (W : World) (p : Pln) (ctx K : Int) (h : Okp p ctx K) (at_ : Nat) (hat : at_ < p.places) (pos layer head row : Int) (hs : (⟨19, pos, layer, head, row⟩ : Stp.Stp) ∈ Stp.placeL p at_) :
    Calls Try.prog 37 #[.agg (planC p ctx K).toArray, .agg #[.int .i64 19, .int .i64 pos, .int .i64 layer, .int .i64 head, .int .i64 row]] W (ReadsPost W (readsL p.places ⟨19, pos, layer, head, row⟩)) := by
  obtain ⟨hb, f1, f2⟩ := h.facts
  have hpb : p.places ≤ 64 := by unfold Pln.places; omega
  have hok := ok_place hb (by omega) hs
  have hra := rat_of W p ctx K h at_ hat 19 pos layer head row hs hok.pos
  obtain ⟨w1, hw1⟩ : ∃ w1, w1 = (W.alloc (.cells (planC p ctx K).toArray 62)).alloc (.cells #[.int .i64 19, .int .i64 pos, .int .i64 layer, .int .i64 head, .int .i64 row] 69) := ⟨_, rfl⟩
  rw [← hw1] at hra
  have HW := Lib.hid hw1
  have HC := Lib.hid hra
  clear hw1 hra hs hok hb f1 f2 hpb hat
  go_enter Try.func37, Try.ntmps37
  go_upto_region 1 with fail
  rw [← HW.out]
  go_upto_region 3 with (first | (refine wpList_load_mid rfl 62 (.tmp 2) rfl W.heap.size 0 rfl (planC p ctx K) _ (rangeAt_whole HC.out.pl) Try.underlying62 rfl plan_size ?_; simp only [Act.put, List.setIfInBounds_toArray, List.set_cons_succ, List.set_cons_zero]) | (refine wpList_load_mid rfl 69 (.tmp 3) rfl (W.heap.size + 1) 0 rfl (Stp.Stp.cells ⟨19, pos, layer, head, row⟩) _ (rangeAt_whole HC.out.st) Try.underlying69 rfl step_size ?_; simp only [Act.put, List.setIfInBounds_toArray, List.set_cons_succ, List.set_cons_zero]) | (go_at_call 85; (with_reducible refine Calls.mono HC.out.has ?_); rintro e w2 ⟨rfl, hb2⟩; have HB := Lib.hid hb2; clear hb2))
  have hst2 := (HB.out.block _ (Array.getElem?_eq_some_iff.1 HC.out.st).1).trans HC.out.st
  have hpl2 := (HB.out.block _ (Array.getElem?_eq_some_iff.1 HC.out.pl).1).trans HC.out.pl
  have c0 : w2.cell? ⟨W.heap.size + 1, 0, none⟩ = some (.int .i64 19) := by rw [cell_of_row _ _ 0 _ _ _ hst2]; rfl
  have c1 : w2.cell? ⟨W.heap.size + 1, 1, none⟩ = some (.int .i64 pos) := by rw [cell_of_row _ _ 1 _ _ _ hst2]; rfl
  have c2 : w2.cell? ⟨W.heap.size + 1, 2, none⟩ = some (.int .i64 layer) := by rw [cell_of_row _ _ 2 _ _ _ hst2]; rfl
  have c4 : w2.cell? ⟨W.heap.size + 1, 4, none⟩ = some (.int .i64 row) := by rw [cell_of_row _ _ 4 _ _ _ hst2]; rfl
  have hb12 := HB.out
  have HT := Lib.hid (And.intro hst2 (And.intro hpl2 (below_chain HC.out.below HB.out)))
  clear hst2 hpl2 hb12
  go_upto_region 14 with fail
  refine wp_region_lit ?_
  clear c1 c2 c4
  refine wpList_ints rfl rfl [0] (by decide) (by decide) rfl #[(0, .int .i64 0)] (by simp only [List.map_toArray, List.map_cons, List.map_nil]; rfl) rfl ?_
  intro g0 x0 hi0 hb0 _
  have hc0 := hb0
  clear hi0 hb0
  simp only [Act.put, List.setIfInBounds_toArray, List.set_cons_succ, List.set_cons_zero]
  refine wpList_ints rfl rfl [1] (by decide) (by decide) rfl #[(0, .int .i64 1)] (by simp only [List.map_toArray, List.map_cons, List.map_nil]; rfl) rfl ?_
  intro g1 x1 hi1 hb1 _
  have hc1 := below_chain hc0 hb1
  clear hi1 hb1 hc0
  simp only [Act.put, List.setIfInBounds_toArray, List.set_cons_succ, List.set_cons_zero]
  refine wpList_ints rfl rfl [2, 3] (by decide) (by decide) rfl #[(0, .int .i64 2), (1, .int .i64 3)] (by simp only [List.map_toArray, List.map_cons, List.map_nil]; rfl) rfl ?_
  intro g2 x2 hi2 hb2 _
  have hc2 := below_chain hc1 hb2
  clear hi2 hb2 hc1
  simp only [Act.put, List.setIfInBounds_toArray, List.set_cons_succ, List.set_cons_zero]
  refine wpList_ints rfl rfl [2, 4] (by decide) (by decide) rfl #[(0, .int .i64 2), (1, .int .i64 4)] (by simp only [List.map_toArray, List.map_cons, List.map_nil]; rfl) rfl ?_
  intro g3 x3 hi3 hb3 _
  have hc3 := below_chain hc2 hb3
  clear hi3 hb3 hc2
  simp only [Act.put, List.setIfInBounds_toArray, List.set_cons_succ, List.set_cons_zero]
  refine wpList_ints rfl rfl [2, 5] (by decide) (by decide) rfl #[(0, .int .i64 2), (1, .int .i64 5)] (by simp only [List.map_toArray, List.map_cons, List.map_nil]; rfl) rfl ?_
  intro g4 x4 hi4 hb4 _
  have hc4 := below_chain hc3 hb4
  clear hi4 hb4 hc3
  simp only [Act.put, List.setIfInBounds_toArray, List.set_cons_succ, List.set_cons_zero]
  refine wpList_ints rfl rfl [3] (by decide) (by decide) rfl #[(0, .int .i64 3)] (by simp only [List.map_toArray, List.map_cons, List.map_nil]; rfl) rfl ?_
  intro g5 x5 hi5 hb5 _
  have hc5 := below_chain hc4 hb5
  clear hi5 hb5 hc4
  simp only [Act.put, List.setIfInBounds_toArray, List.set_cons_succ, List.set_cons_zero]
  refine wpList_ints rfl rfl [4] (by decide) (by decide) rfl #[(0, .int .i64 4)] (by simp only [List.map_toArray, List.map_cons, List.map_nil]; rfl) rfl ?_
  intro g6 x6 hi6 hb6 _
  have hc6 := below_chain hc5 hb6
  clear hi6 hb6 hc5
  simp only [Act.put, List.setIfInBounds_toArray, List.set_cons_succ, List.set_cons_zero]
  refine wpList_ints rfl rfl [5] (by decide) (by decide) rfl #[(0, .int .i64 5)] (by simp only [List.map_toArray, List.map_cons, List.map_nil]; rfl) rfl ?_
  intro g7 x7 hi7 hb7 _
  have hc7 := below_chain hc6 hb7
  clear hi7 hb7 hc6
  simp only [Act.put, List.setIfInBounds_toArray, List.set_cons_succ, List.set_cons_zero]
  refine wpList_ints rfl rfl [7] (by decide) (by decide) rfl #[(0, .int .i64 7)] (by simp only [List.map_toArray, List.map_cons, List.map_nil]; rfl) rfl ?_
  intro g8 x8 hi8 hb8 _
  have hc8 := below_chain hc7 hb8
  clear hi8 hb8 hc7
  simp only [Act.put, List.setIfInBounds_toArray, List.set_cons_succ, List.set_cons_zero]
  refine wpList_ints rfl rfl [6, 10] (by decide) (by decide) rfl #[(0, .int .i64 6), (1, .int .i64 10)] (by simp only [List.map_toArray, List.map_cons, List.map_nil]; rfl) rfl ?_
  intro g9 x9 hi9 hb9 _
  have hc9 := below_chain hc8 hb9
  clear hi9 hb9 hc8
  simp only [Act.put, List.setIfInBounds_toArray, List.set_cons_succ, List.set_cons_zero]
  refine wpList_ints rfl rfl [1, 10] (by decide) (by decide) rfl #[(0, .int .i64 1), (1, .int .i64 10)] (by simp only [List.map_toArray, List.map_cons, List.map_nil]; rfl) rfl ?_
  intro g10 x10 hi10 hb10 _
  have hc10 := below_chain hc9 hb10
  clear hi10 hb10 hc9
  simp only [Act.put, List.setIfInBounds_toArray, List.set_cons_succ, List.set_cons_zero]
  refine wpList_ints rfl rfl [1] (by decide) (by decide) rfl #[(0, .int .i64 1)] (by simp only [List.map_toArray, List.map_cons, List.map_nil]; rfl) rfl ?_
  intro g11 x11 hi11 hb11 _
  have hc11 := below_chain hc10 hb11
  clear hi11 hb11 hc10
  simp only [Act.put, List.setIfInBounds_toArray, List.set_cons_succ, List.set_cons_zero]
  refine wpList_ints rfl rfl [2, 8] (by decide) (by decide) rfl #[(0, .int .i64 2), (1, .int .i64 8)] (by simp only [List.map_toArray, List.map_cons, List.map_nil]; rfl) rfl ?_
  intro g12 x12 hi12 hb12 _
  have hc12 := below_chain hc11 hb12
  clear hi12 hb12 hc11
  simp only [Act.put, List.setIfInBounds_toArray, List.set_cons_succ, List.set_cons_zero]
  refine wpList_ints rfl rfl [8] (by decide) (by decide) rfl #[(0, .int .i64 8)] (by simp only [List.map_toArray, List.map_cons, List.map_nil]; rfl) rfl ?_
  intro g13 x13 hi13 hb13 _
  have hc13 := below_chain hc12 hb13
  clear hi13 hb13 hc12
  simp only [Act.put, List.setIfInBounds_toArray, List.set_cons_succ, List.set_cons_zero]
  refine wpList_ints rfl rfl [2, 9] (by decide) (by decide) rfl #[(0, .int .i64 2), (1, .int .i64 9)] (by simp only [List.map_toArray, List.map_cons, List.map_nil]; rfl) rfl ?_
  intro g14 x14 hi14 hb14 _
  have hc14 := below_chain hc13 hb14
  clear hi14 hb14 hc13
  simp only [Act.put, List.setIfInBounds_toArray, List.set_cons_succ, List.set_cons_zero]
  refine wpList_ints rfl rfl [8, 9] (by decide) (by decide) rfl #[(0, .int .i64 8), (1, .int .i64 9)] (by simp only [List.map_toArray, List.map_cons, List.map_nil]; rfl) rfl ?_
  intro g15 x15 hi15 hb15 _
  have hc15 := below_chain hc14 hb15
  clear hi15 hb15 hc14
  simp only [Act.put, List.setIfInBounds_toArray, List.set_cons_succ, List.set_cons_zero]
  refine wpList_ints rfl rfl [8, 10] (by decide) (by decide) rfl #[(0, .int .i64 8), (1, .int .i64 10)] (by simp only [List.map_toArray, List.map_cons, List.map_nil]; rfl) rfl ?_
  intro g16 x16 hi16 hb16 _
  have hc16 := below_chain hc15 hb16
  clear hc15
  have hk16 := hi16
  clear hi16 hb16
  simp only [Act.put, List.setIfInBounds_toArray, List.set_cons_succ, List.set_cons_zero]
  refine wpList_ints rfl rfl [1, 10] (by decide) (by decide) rfl #[(0, .int .i64 1), (1, .int .i64 10)] (by simp only [List.map_toArray, List.map_cons, List.map_nil]; rfl) rfl ?_
  intro g17 x17 hi17 hb17 _
  have hc17 := below_chain hc16 hb17
  have hk17 := Ints.new hk16 hb17
  clear hc16 hk16 hi17 hb17
  simp only [Act.put, List.setIfInBounds_toArray, List.set_cons_succ, List.set_cons_zero]
  refine wpList_ints rfl rfl [1] (by decide) (by decide) rfl #[(0, .int .i64 1)] (by simp only [List.map_toArray, List.map_cons, List.map_nil]; rfl) rfl ?_
  intro g18 x18 hi18 hb18 _
  have hc18 := below_chain hc17 hb18
  have hk18 := Ints.new hk17 hb18
  clear hc17 hk17 hi18 hb18
  simp only [Act.put, List.setIfInBounds_toArray, List.set_cons_succ, List.set_cons_zero]
  refine wpList_ints rfl rfl [2, 11] (by decide) (by decide) rfl #[(0, .int .i64 2), (1, .int .i64 11)] (by simp only [List.map_toArray, List.map_cons, List.map_nil]; rfl) rfl ?_
  intro g19 x19 hi19 hb19 _
  have hc19 := below_chain hc18 hb19
  have hk19 := Ints.new hk18 hb19
  clear hc18 hk18 hi19 hb19
  simp only [Act.put, List.setIfInBounds_toArray, List.set_cons_succ, List.set_cons_zero]
  refine wpList_ints rfl rfl [11, 0] (by decide) (by decide) rfl #[(0, .int .i64 11), (1, .int .i64 0)] (by simp only [List.map_toArray, List.map_cons, List.map_nil]; rfl) rfl ?_
  intro g20 x20 hi20 hb20 _
  have hc20 := below_chain hc19 hb20
  have hk20 := Ints.new hk19 hb20
  clear hc19 hk19 hi20 hb20
  simp only [Act.put, List.setIfInBounds_toArray, List.set_cons_succ, List.set_cons_zero]
  have hix : ∀ w, (Instr.index 162 (.agg #[Value.slice none 0 0, Value.slice (some ⟨g0, 0, none⟩) 1 1, Value.slice (some ⟨g1, 0, none⟩) 1 1, Value.slice (some ⟨g2, 0, none⟩) 2 2, Value.slice (some ⟨g3, 0, none⟩) 2 2, Value.slice (some ⟨g4, 0, none⟩) 2 2, Value.slice (some ⟨g5, 0, none⟩) 1 1, Value.slice (some ⟨g6, 0, none⟩) 1 1, Value.slice (some ⟨g7, 0, none⟩) 1 1, Value.slice none 0 0, Value.slice (some ⟨g8, 0, none⟩) 1 1, Value.slice none 0 0, Value.slice (some ⟨g9, 0, none⟩) 2 2, Value.slice (some ⟨g10, 0, none⟩) 2 2, Value.slice (some ⟨g11, 0, none⟩) 1 1, Value.slice (some ⟨g12, 0, none⟩) 2 2, Value.slice (some ⟨g13, 0, none⟩) 1 1, Value.slice (some ⟨g14, 0, none⟩) 2 2, Value.slice (some ⟨g15, 0, none⟩) 2 2, Value.slice (some ⟨g16, 0, none⟩) 2 2, Value.slice (some ⟨g17, 0, none⟩) 2 2, Value.slice (some ⟨g18, 0, none⟩) 1 1, Value.slice (some ⟨g19, 0, none⟩) 2 2, Value.slice (some ⟨g20, 0, none⟩) 2 2]) (.int .i64 19)).run Try.prog w = .ok (Value.slice (some ⟨g16, 0, none⟩) 2 2) w := fun w => index_slices w _ 19 (by decide) rfl
  have c20 := (hc20.cell (block_lt_of_cell c0)).trans c0
  have hcl := clone_ints x20 _ _ hk20 (by decide)
  unfold IntsPost at hcl
  have HZ := Lib.hid (And.intro hc20 hcl)
  clear hc20 hk20 hcl c0
  go_wp2_with (go_at_call 71; (refine Calls.mono HZ.out.2 ?_); rintro e w9 ⟨A9, z9, rfl, ho9, hb9⟩; have H9 := Lib.hid (And.intro ho9 hb9); clear ho9 hb9)
  go_ret
  exact ⟨_, _, _, rfl, rfl, H9.out.1.sees, below_chain HT.out.2.2 (below_chain HZ.out.1 H9.out.2)⟩
set_option maxRecDepth 100000 in
set_option maxHeartbeats 4000000 in
theorem reads_20 (W : World) (p : Pln) (ctx K : Int) (h : Okp p ctx K) (at_ : Nat) (hat : at_ < p.places) (pos layer head row : Int) (hs : (⟨20, pos, layer, head, row⟩ : Stp.Stp) ∈ Stp.placeL p at_) :
    Calls Try.prog 37 #[.agg (planC p ctx K).toArray, .agg #[.int .i64 20, .int .i64 pos, .int .i64 layer, .int .i64 head, .int .i64 row]] W (ReadsPost W (readsL p.places ⟨20, pos, layer, head, row⟩)) := by
  obtain ⟨hb, f1, f2⟩ := h.facts
  have hpb : p.places ≤ 64 := by unfold Pln.places; omega
  have hok := ok_place hb (by omega) hs
  have hra := rat_of W p ctx K h at_ hat 20 pos layer head row hs hok.pos
  obtain ⟨w1, hw1⟩ : ∃ w1, w1 = (W.alloc (.cells (planC p ctx K).toArray 62)).alloc (.cells #[.int .i64 20, .int .i64 pos, .int .i64 layer, .int .i64 head, .int .i64 row] 69) := ⟨_, rfl⟩
  rw [← hw1] at hra
  have HW := Lib.hid hw1
  have HC := Lib.hid hra
  clear hw1 hra hs hok hb f1 f2 hpb hat
  go_enter Try.func37, Try.ntmps37
  go_upto_region 1 with fail
  rw [← HW.out]
  go_upto_region 3 with (first | (refine wpList_load_mid rfl 62 (.tmp 2) rfl W.heap.size 0 rfl (planC p ctx K) _ (rangeAt_whole HC.out.pl) Try.underlying62 rfl plan_size ?_; simp only [Act.put, List.setIfInBounds_toArray, List.set_cons_succ, List.set_cons_zero]) | (refine wpList_load_mid rfl 69 (.tmp 3) rfl (W.heap.size + 1) 0 rfl (Stp.Stp.cells ⟨20, pos, layer, head, row⟩) _ (rangeAt_whole HC.out.st) Try.underlying69 rfl step_size ?_; simp only [Act.put, List.setIfInBounds_toArray, List.set_cons_succ, List.set_cons_zero]) | (go_at_call 85; (with_reducible refine Calls.mono HC.out.has ?_); rintro e w2 ⟨rfl, hb2⟩; have HB := Lib.hid hb2; clear hb2))
  have hst2 := (HB.out.block _ (Array.getElem?_eq_some_iff.1 HC.out.st).1).trans HC.out.st
  have hpl2 := (HB.out.block _ (Array.getElem?_eq_some_iff.1 HC.out.pl).1).trans HC.out.pl
  have c0 : w2.cell? ⟨W.heap.size + 1, 0, none⟩ = some (.int .i64 20) := by rw [cell_of_row _ _ 0 _ _ _ hst2]; rfl
  have c1 : w2.cell? ⟨W.heap.size + 1, 1, none⟩ = some (.int .i64 pos) := by rw [cell_of_row _ _ 1 _ _ _ hst2]; rfl
  have c2 : w2.cell? ⟨W.heap.size + 1, 2, none⟩ = some (.int .i64 layer) := by rw [cell_of_row _ _ 2 _ _ _ hst2]; rfl
  have c4 : w2.cell? ⟨W.heap.size + 1, 4, none⟩ = some (.int .i64 row) := by rw [cell_of_row _ _ 4 _ _ _ hst2]; rfl
  have hb12 := HB.out
  have HT := Lib.hid (And.intro hst2 (And.intro hpl2 (below_chain HC.out.below HB.out)))
  clear hst2 hpl2 hb12
  go_upto_region 14 with fail
  refine wp_region_lit ?_
  clear c1 c2 c4
  refine wpList_ints rfl rfl [0] (by decide) (by decide) rfl #[(0, .int .i64 0)] (by simp only [List.map_toArray, List.map_cons, List.map_nil]; rfl) rfl ?_
  intro g0 x0 hi0 hb0 _
  have hc0 := hb0
  clear hi0 hb0
  simp only [Act.put, List.setIfInBounds_toArray, List.set_cons_succ, List.set_cons_zero]
  refine wpList_ints rfl rfl [1] (by decide) (by decide) rfl #[(0, .int .i64 1)] (by simp only [List.map_toArray, List.map_cons, List.map_nil]; rfl) rfl ?_
  intro g1 x1 hi1 hb1 _
  have hc1 := below_chain hc0 hb1
  clear hi1 hb1 hc0
  simp only [Act.put, List.setIfInBounds_toArray, List.set_cons_succ, List.set_cons_zero]
  refine wpList_ints rfl rfl [2, 3] (by decide) (by decide) rfl #[(0, .int .i64 2), (1, .int .i64 3)] (by simp only [List.map_toArray, List.map_cons, List.map_nil]; rfl) rfl ?_
  intro g2 x2 hi2 hb2 _
  have hc2 := below_chain hc1 hb2
  clear hi2 hb2 hc1
  simp only [Act.put, List.setIfInBounds_toArray, List.set_cons_succ, List.set_cons_zero]
  refine wpList_ints rfl rfl [2, 4] (by decide) (by decide) rfl #[(0, .int .i64 2), (1, .int .i64 4)] (by simp only [List.map_toArray, List.map_cons, List.map_nil]; rfl) rfl ?_
  intro g3 x3 hi3 hb3 _
  have hc3 := below_chain hc2 hb3
  clear hi3 hb3 hc2
  simp only [Act.put, List.setIfInBounds_toArray, List.set_cons_succ, List.set_cons_zero]
  refine wpList_ints rfl rfl [2, 5] (by decide) (by decide) rfl #[(0, .int .i64 2), (1, .int .i64 5)] (by simp only [List.map_toArray, List.map_cons, List.map_nil]; rfl) rfl ?_
  intro g4 x4 hi4 hb4 _
  have hc4 := below_chain hc3 hb4
  clear hi4 hb4 hc3
  simp only [Act.put, List.setIfInBounds_toArray, List.set_cons_succ, List.set_cons_zero]
  refine wpList_ints rfl rfl [3] (by decide) (by decide) rfl #[(0, .int .i64 3)] (by simp only [List.map_toArray, List.map_cons, List.map_nil]; rfl) rfl ?_
  intro g5 x5 hi5 hb5 _
  have hc5 := below_chain hc4 hb5
  clear hi5 hb5 hc4
  simp only [Act.put, List.setIfInBounds_toArray, List.set_cons_succ, List.set_cons_zero]
  refine wpList_ints rfl rfl [4] (by decide) (by decide) rfl #[(0, .int .i64 4)] (by simp only [List.map_toArray, List.map_cons, List.map_nil]; rfl) rfl ?_
  intro g6 x6 hi6 hb6 _
  have hc6 := below_chain hc5 hb6
  clear hi6 hb6 hc5
  simp only [Act.put, List.setIfInBounds_toArray, List.set_cons_succ, List.set_cons_zero]
  refine wpList_ints rfl rfl [5] (by decide) (by decide) rfl #[(0, .int .i64 5)] (by simp only [List.map_toArray, List.map_cons, List.map_nil]; rfl) rfl ?_
  intro g7 x7 hi7 hb7 _
  have hc7 := below_chain hc6 hb7
  clear hi7 hb7 hc6
  simp only [Act.put, List.setIfInBounds_toArray, List.set_cons_succ, List.set_cons_zero]
  refine wpList_ints rfl rfl [7] (by decide) (by decide) rfl #[(0, .int .i64 7)] (by simp only [List.map_toArray, List.map_cons, List.map_nil]; rfl) rfl ?_
  intro g8 x8 hi8 hb8 _
  have hc8 := below_chain hc7 hb8
  clear hi8 hb8 hc7
  simp only [Act.put, List.setIfInBounds_toArray, List.set_cons_succ, List.set_cons_zero]
  refine wpList_ints rfl rfl [6, 10] (by decide) (by decide) rfl #[(0, .int .i64 6), (1, .int .i64 10)] (by simp only [List.map_toArray, List.map_cons, List.map_nil]; rfl) rfl ?_
  intro g9 x9 hi9 hb9 _
  have hc9 := below_chain hc8 hb9
  clear hi9 hb9 hc8
  simp only [Act.put, List.setIfInBounds_toArray, List.set_cons_succ, List.set_cons_zero]
  refine wpList_ints rfl rfl [1, 10] (by decide) (by decide) rfl #[(0, .int .i64 1), (1, .int .i64 10)] (by simp only [List.map_toArray, List.map_cons, List.map_nil]; rfl) rfl ?_
  intro g10 x10 hi10 hb10 _
  have hc10 := below_chain hc9 hb10
  clear hi10 hb10 hc9
  simp only [Act.put, List.setIfInBounds_toArray, List.set_cons_succ, List.set_cons_zero]
  refine wpList_ints rfl rfl [1] (by decide) (by decide) rfl #[(0, .int .i64 1)] (by simp only [List.map_toArray, List.map_cons, List.map_nil]; rfl) rfl ?_
  intro g11 x11 hi11 hb11 _
  have hc11 := below_chain hc10 hb11
  clear hi11 hb11 hc10
  simp only [Act.put, List.setIfInBounds_toArray, List.set_cons_succ, List.set_cons_zero]
  refine wpList_ints rfl rfl [2, 8] (by decide) (by decide) rfl #[(0, .int .i64 2), (1, .int .i64 8)] (by simp only [List.map_toArray, List.map_cons, List.map_nil]; rfl) rfl ?_
  intro g12 x12 hi12 hb12 _
  have hc12 := below_chain hc11 hb12
  clear hi12 hb12 hc11
  simp only [Act.put, List.setIfInBounds_toArray, List.set_cons_succ, List.set_cons_zero]
  refine wpList_ints rfl rfl [8] (by decide) (by decide) rfl #[(0, .int .i64 8)] (by simp only [List.map_toArray, List.map_cons, List.map_nil]; rfl) rfl ?_
  intro g13 x13 hi13 hb13 _
  have hc13 := below_chain hc12 hb13
  clear hi13 hb13 hc12
  simp only [Act.put, List.setIfInBounds_toArray, List.set_cons_succ, List.set_cons_zero]
  refine wpList_ints rfl rfl [2, 9] (by decide) (by decide) rfl #[(0, .int .i64 2), (1, .int .i64 9)] (by simp only [List.map_toArray, List.map_cons, List.map_nil]; rfl) rfl ?_
  intro g14 x14 hi14 hb14 _
  have hc14 := below_chain hc13 hb14
  clear hi14 hb14 hc13
  simp only [Act.put, List.setIfInBounds_toArray, List.set_cons_succ, List.set_cons_zero]
  refine wpList_ints rfl rfl [8, 9] (by decide) (by decide) rfl #[(0, .int .i64 8), (1, .int .i64 9)] (by simp only [List.map_toArray, List.map_cons, List.map_nil]; rfl) rfl ?_
  intro g15 x15 hi15 hb15 _
  have hc15 := below_chain hc14 hb15
  clear hi15 hb15 hc14
  simp only [Act.put, List.setIfInBounds_toArray, List.set_cons_succ, List.set_cons_zero]
  refine wpList_ints rfl rfl [8, 10] (by decide) (by decide) rfl #[(0, .int .i64 8), (1, .int .i64 10)] (by simp only [List.map_toArray, List.map_cons, List.map_nil]; rfl) rfl ?_
  intro g16 x16 hi16 hb16 _
  have hc16 := below_chain hc15 hb16
  clear hi16 hb16 hc15
  simp only [Act.put, List.setIfInBounds_toArray, List.set_cons_succ, List.set_cons_zero]
  refine wpList_ints rfl rfl [1, 10] (by decide) (by decide) rfl #[(0, .int .i64 1), (1, .int .i64 10)] (by simp only [List.map_toArray, List.map_cons, List.map_nil]; rfl) rfl ?_
  intro g17 x17 hi17 hb17 _
  have hc17 := below_chain hc16 hb17
  clear hc16
  have hk17 := hi17
  clear hi17 hb17
  simp only [Act.put, List.setIfInBounds_toArray, List.set_cons_succ, List.set_cons_zero]
  refine wpList_ints rfl rfl [1] (by decide) (by decide) rfl #[(0, .int .i64 1)] (by simp only [List.map_toArray, List.map_cons, List.map_nil]; rfl) rfl ?_
  intro g18 x18 hi18 hb18 _
  have hc18 := below_chain hc17 hb18
  have hk18 := Ints.new hk17 hb18
  clear hc17 hk17 hi18 hb18
  simp only [Act.put, List.setIfInBounds_toArray, List.set_cons_succ, List.set_cons_zero]
  refine wpList_ints rfl rfl [2, 11] (by decide) (by decide) rfl #[(0, .int .i64 2), (1, .int .i64 11)] (by simp only [List.map_toArray, List.map_cons, List.map_nil]; rfl) rfl ?_
  intro g19 x19 hi19 hb19 _
  have hc19 := below_chain hc18 hb19
  have hk19 := Ints.new hk18 hb19
  clear hc18 hk18 hi19 hb19
  simp only [Act.put, List.setIfInBounds_toArray, List.set_cons_succ, List.set_cons_zero]
  refine wpList_ints rfl rfl [11, 0] (by decide) (by decide) rfl #[(0, .int .i64 11), (1, .int .i64 0)] (by simp only [List.map_toArray, List.map_cons, List.map_nil]; rfl) rfl ?_
  intro g20 x20 hi20 hb20 _
  have hc20 := below_chain hc19 hb20
  have hk20 := Ints.new hk19 hb20
  clear hc19 hk19 hi20 hb20
  simp only [Act.put, List.setIfInBounds_toArray, List.set_cons_succ, List.set_cons_zero]
  have hix : ∀ w, (Instr.index 162 (.agg #[Value.slice none 0 0, Value.slice (some ⟨g0, 0, none⟩) 1 1, Value.slice (some ⟨g1, 0, none⟩) 1 1, Value.slice (some ⟨g2, 0, none⟩) 2 2, Value.slice (some ⟨g3, 0, none⟩) 2 2, Value.slice (some ⟨g4, 0, none⟩) 2 2, Value.slice (some ⟨g5, 0, none⟩) 1 1, Value.slice (some ⟨g6, 0, none⟩) 1 1, Value.slice (some ⟨g7, 0, none⟩) 1 1, Value.slice none 0 0, Value.slice (some ⟨g8, 0, none⟩) 1 1, Value.slice none 0 0, Value.slice (some ⟨g9, 0, none⟩) 2 2, Value.slice (some ⟨g10, 0, none⟩) 2 2, Value.slice (some ⟨g11, 0, none⟩) 1 1, Value.slice (some ⟨g12, 0, none⟩) 2 2, Value.slice (some ⟨g13, 0, none⟩) 1 1, Value.slice (some ⟨g14, 0, none⟩) 2 2, Value.slice (some ⟨g15, 0, none⟩) 2 2, Value.slice (some ⟨g16, 0, none⟩) 2 2, Value.slice (some ⟨g17, 0, none⟩) 2 2, Value.slice (some ⟨g18, 0, none⟩) 1 1, Value.slice (some ⟨g19, 0, none⟩) 2 2, Value.slice (some ⟨g20, 0, none⟩) 2 2]) (.int .i64 20)).run Try.prog w = .ok (Value.slice (some ⟨g17, 0, none⟩) 2 2) w := fun w => index_slices w _ 20 (by decide) rfl
  have c20 := (hc20.cell (block_lt_of_cell c0)).trans c0
  have hcl := clone_ints x20 _ _ hk20 (by decide)
  unfold IntsPost at hcl
  have HZ := Lib.hid (And.intro hc20 hcl)
  clear hc20 hk20 hcl c0
  go_wp2_with (go_at_call 71; (refine Calls.mono HZ.out.2 ?_); rintro e w9 ⟨A9, z9, rfl, ho9, hb9⟩; have H9 := Lib.hid (And.intro ho9 hb9); clear ho9 hb9)
  go_ret
  exact ⟨_, _, _, rfl, rfl, H9.out.1.sees, below_chain HT.out.2.2 (below_chain HZ.out.1 H9.out.2)⟩
set_option maxRecDepth 100000 in
set_option maxHeartbeats 4000000 in
theorem reads_21 (W : World) (p : Pln) (ctx K : Int) (h : Okp p ctx K) (at_ : Nat) (hat : at_ < p.places) (pos layer head row : Int) (hs : (⟨21, pos, layer, head, row⟩ : Stp.Stp) ∈ Stp.placeL p at_) :
    Calls Try.prog 37 #[.agg (planC p ctx K).toArray, .agg #[.int .i64 21, .int .i64 pos, .int .i64 layer, .int .i64 head, .int .i64 row]] W (ReadsPost W (readsL p.places ⟨21, pos, layer, head, row⟩)) := by
  obtain ⟨hb, f1, f2⟩ := h.facts
  have hpb : p.places ≤ 64 := by unfold Pln.places; omega
  have hok := ok_place hb (by omega) hs
  have hra := rat_of W p ctx K h at_ hat 21 pos layer head row hs hok.pos
  obtain ⟨w1, hw1⟩ : ∃ w1, w1 = (W.alloc (.cells (planC p ctx K).toArray 62)).alloc (.cells #[.int .i64 21, .int .i64 pos, .int .i64 layer, .int .i64 head, .int .i64 row] 69) := ⟨_, rfl⟩
  rw [← hw1] at hra
  have HW := Lib.hid hw1
  have HC := Lib.hid hra
  clear hw1 hra hs hok hb f1 f2 hpb hat
  go_enter Try.func37, Try.ntmps37
  go_upto_region 1 with fail
  rw [← HW.out]
  go_upto_region 3 with (first | (refine wpList_load_mid rfl 62 (.tmp 2) rfl W.heap.size 0 rfl (planC p ctx K) _ (rangeAt_whole HC.out.pl) Try.underlying62 rfl plan_size ?_; simp only [Act.put, List.setIfInBounds_toArray, List.set_cons_succ, List.set_cons_zero]) | (refine wpList_load_mid rfl 69 (.tmp 3) rfl (W.heap.size + 1) 0 rfl (Stp.Stp.cells ⟨21, pos, layer, head, row⟩) _ (rangeAt_whole HC.out.st) Try.underlying69 rfl step_size ?_; simp only [Act.put, List.setIfInBounds_toArray, List.set_cons_succ, List.set_cons_zero]) | (go_at_call 85; (with_reducible refine Calls.mono HC.out.has ?_); rintro e w2 ⟨rfl, hb2⟩; have HB := Lib.hid hb2; clear hb2))
  have hst2 := (HB.out.block _ (Array.getElem?_eq_some_iff.1 HC.out.st).1).trans HC.out.st
  have hpl2 := (HB.out.block _ (Array.getElem?_eq_some_iff.1 HC.out.pl).1).trans HC.out.pl
  have c0 : w2.cell? ⟨W.heap.size + 1, 0, none⟩ = some (.int .i64 21) := by rw [cell_of_row _ _ 0 _ _ _ hst2]; rfl
  have c1 : w2.cell? ⟨W.heap.size + 1, 1, none⟩ = some (.int .i64 pos) := by rw [cell_of_row _ _ 1 _ _ _ hst2]; rfl
  have c2 : w2.cell? ⟨W.heap.size + 1, 2, none⟩ = some (.int .i64 layer) := by rw [cell_of_row _ _ 2 _ _ _ hst2]; rfl
  have c4 : w2.cell? ⟨W.heap.size + 1, 4, none⟩ = some (.int .i64 row) := by rw [cell_of_row _ _ 4 _ _ _ hst2]; rfl
  have hb12 := HB.out
  have HT := Lib.hid (And.intro hst2 (And.intro hpl2 (below_chain HC.out.below HB.out)))
  clear hst2 hpl2 hb12
  go_upto_region 14 with fail
  refine wp_region_lit ?_
  clear c1 c2 c4
  refine wpList_ints rfl rfl [0] (by decide) (by decide) rfl #[(0, .int .i64 0)] (by simp only [List.map_toArray, List.map_cons, List.map_nil]; rfl) rfl ?_
  intro g0 x0 hi0 hb0 _
  have hc0 := hb0
  clear hi0 hb0
  simp only [Act.put, List.setIfInBounds_toArray, List.set_cons_succ, List.set_cons_zero]
  refine wpList_ints rfl rfl [1] (by decide) (by decide) rfl #[(0, .int .i64 1)] (by simp only [List.map_toArray, List.map_cons, List.map_nil]; rfl) rfl ?_
  intro g1 x1 hi1 hb1 _
  have hc1 := below_chain hc0 hb1
  clear hi1 hb1 hc0
  simp only [Act.put, List.setIfInBounds_toArray, List.set_cons_succ, List.set_cons_zero]
  refine wpList_ints rfl rfl [2, 3] (by decide) (by decide) rfl #[(0, .int .i64 2), (1, .int .i64 3)] (by simp only [List.map_toArray, List.map_cons, List.map_nil]; rfl) rfl ?_
  intro g2 x2 hi2 hb2 _
  have hc2 := below_chain hc1 hb2
  clear hi2 hb2 hc1
  simp only [Act.put, List.setIfInBounds_toArray, List.set_cons_succ, List.set_cons_zero]
  refine wpList_ints rfl rfl [2, 4] (by decide) (by decide) rfl #[(0, .int .i64 2), (1, .int .i64 4)] (by simp only [List.map_toArray, List.map_cons, List.map_nil]; rfl) rfl ?_
  intro g3 x3 hi3 hb3 _
  have hc3 := below_chain hc2 hb3
  clear hi3 hb3 hc2
  simp only [Act.put, List.setIfInBounds_toArray, List.set_cons_succ, List.set_cons_zero]
  refine wpList_ints rfl rfl [2, 5] (by decide) (by decide) rfl #[(0, .int .i64 2), (1, .int .i64 5)] (by simp only [List.map_toArray, List.map_cons, List.map_nil]; rfl) rfl ?_
  intro g4 x4 hi4 hb4 _
  have hc4 := below_chain hc3 hb4
  clear hi4 hb4 hc3
  simp only [Act.put, List.setIfInBounds_toArray, List.set_cons_succ, List.set_cons_zero]
  refine wpList_ints rfl rfl [3] (by decide) (by decide) rfl #[(0, .int .i64 3)] (by simp only [List.map_toArray, List.map_cons, List.map_nil]; rfl) rfl ?_
  intro g5 x5 hi5 hb5 _
  have hc5 := below_chain hc4 hb5
  clear hi5 hb5 hc4
  simp only [Act.put, List.setIfInBounds_toArray, List.set_cons_succ, List.set_cons_zero]
  refine wpList_ints rfl rfl [4] (by decide) (by decide) rfl #[(0, .int .i64 4)] (by simp only [List.map_toArray, List.map_cons, List.map_nil]; rfl) rfl ?_
  intro g6 x6 hi6 hb6 _
  have hc6 := below_chain hc5 hb6
  clear hi6 hb6 hc5
  simp only [Act.put, List.setIfInBounds_toArray, List.set_cons_succ, List.set_cons_zero]
  refine wpList_ints rfl rfl [5] (by decide) (by decide) rfl #[(0, .int .i64 5)] (by simp only [List.map_toArray, List.map_cons, List.map_nil]; rfl) rfl ?_
  intro g7 x7 hi7 hb7 _
  have hc7 := below_chain hc6 hb7
  clear hi7 hb7 hc6
  simp only [Act.put, List.setIfInBounds_toArray, List.set_cons_succ, List.set_cons_zero]
  refine wpList_ints rfl rfl [7] (by decide) (by decide) rfl #[(0, .int .i64 7)] (by simp only [List.map_toArray, List.map_cons, List.map_nil]; rfl) rfl ?_
  intro g8 x8 hi8 hb8 _
  have hc8 := below_chain hc7 hb8
  clear hi8 hb8 hc7
  simp only [Act.put, List.setIfInBounds_toArray, List.set_cons_succ, List.set_cons_zero]
  refine wpList_ints rfl rfl [6, 10] (by decide) (by decide) rfl #[(0, .int .i64 6), (1, .int .i64 10)] (by simp only [List.map_toArray, List.map_cons, List.map_nil]; rfl) rfl ?_
  intro g9 x9 hi9 hb9 _
  have hc9 := below_chain hc8 hb9
  clear hi9 hb9 hc8
  simp only [Act.put, List.setIfInBounds_toArray, List.set_cons_succ, List.set_cons_zero]
  refine wpList_ints rfl rfl [1, 10] (by decide) (by decide) rfl #[(0, .int .i64 1), (1, .int .i64 10)] (by simp only [List.map_toArray, List.map_cons, List.map_nil]; rfl) rfl ?_
  intro g10 x10 hi10 hb10 _
  have hc10 := below_chain hc9 hb10
  clear hi10 hb10 hc9
  simp only [Act.put, List.setIfInBounds_toArray, List.set_cons_succ, List.set_cons_zero]
  refine wpList_ints rfl rfl [1] (by decide) (by decide) rfl #[(0, .int .i64 1)] (by simp only [List.map_toArray, List.map_cons, List.map_nil]; rfl) rfl ?_
  intro g11 x11 hi11 hb11 _
  have hc11 := below_chain hc10 hb11
  clear hi11 hb11 hc10
  simp only [Act.put, List.setIfInBounds_toArray, List.set_cons_succ, List.set_cons_zero]
  refine wpList_ints rfl rfl [2, 8] (by decide) (by decide) rfl #[(0, .int .i64 2), (1, .int .i64 8)] (by simp only [List.map_toArray, List.map_cons, List.map_nil]; rfl) rfl ?_
  intro g12 x12 hi12 hb12 _
  have hc12 := below_chain hc11 hb12
  clear hi12 hb12 hc11
  simp only [Act.put, List.setIfInBounds_toArray, List.set_cons_succ, List.set_cons_zero]
  refine wpList_ints rfl rfl [8] (by decide) (by decide) rfl #[(0, .int .i64 8)] (by simp only [List.map_toArray, List.map_cons, List.map_nil]; rfl) rfl ?_
  intro g13 x13 hi13 hb13 _
  have hc13 := below_chain hc12 hb13
  clear hi13 hb13 hc12
  simp only [Act.put, List.setIfInBounds_toArray, List.set_cons_succ, List.set_cons_zero]
  refine wpList_ints rfl rfl [2, 9] (by decide) (by decide) rfl #[(0, .int .i64 2), (1, .int .i64 9)] (by simp only [List.map_toArray, List.map_cons, List.map_nil]; rfl) rfl ?_
  intro g14 x14 hi14 hb14 _
  have hc14 := below_chain hc13 hb14
  clear hi14 hb14 hc13
  simp only [Act.put, List.setIfInBounds_toArray, List.set_cons_succ, List.set_cons_zero]
  refine wpList_ints rfl rfl [8, 9] (by decide) (by decide) rfl #[(0, .int .i64 8), (1, .int .i64 9)] (by simp only [List.map_toArray, List.map_cons, List.map_nil]; rfl) rfl ?_
  intro g15 x15 hi15 hb15 _
  have hc15 := below_chain hc14 hb15
  clear hi15 hb15 hc14
  simp only [Act.put, List.setIfInBounds_toArray, List.set_cons_succ, List.set_cons_zero]
  refine wpList_ints rfl rfl [8, 10] (by decide) (by decide) rfl #[(0, .int .i64 8), (1, .int .i64 10)] (by simp only [List.map_toArray, List.map_cons, List.map_nil]; rfl) rfl ?_
  intro g16 x16 hi16 hb16 _
  have hc16 := below_chain hc15 hb16
  clear hi16 hb16 hc15
  simp only [Act.put, List.setIfInBounds_toArray, List.set_cons_succ, List.set_cons_zero]
  refine wpList_ints rfl rfl [1, 10] (by decide) (by decide) rfl #[(0, .int .i64 1), (1, .int .i64 10)] (by simp only [List.map_toArray, List.map_cons, List.map_nil]; rfl) rfl ?_
  intro g17 x17 hi17 hb17 _
  have hc17 := below_chain hc16 hb17
  clear hi17 hb17 hc16
  simp only [Act.put, List.setIfInBounds_toArray, List.set_cons_succ, List.set_cons_zero]
  refine wpList_ints rfl rfl [1] (by decide) (by decide) rfl #[(0, .int .i64 1)] (by simp only [List.map_toArray, List.map_cons, List.map_nil]; rfl) rfl ?_
  intro g18 x18 hi18 hb18 _
  have hc18 := below_chain hc17 hb18
  clear hc17
  have hk18 := hi18
  clear hi18 hb18
  simp only [Act.put, List.setIfInBounds_toArray, List.set_cons_succ, List.set_cons_zero]
  refine wpList_ints rfl rfl [2, 11] (by decide) (by decide) rfl #[(0, .int .i64 2), (1, .int .i64 11)] (by simp only [List.map_toArray, List.map_cons, List.map_nil]; rfl) rfl ?_
  intro g19 x19 hi19 hb19 _
  have hc19 := below_chain hc18 hb19
  have hk19 := Ints.new hk18 hb19
  clear hc18 hk18 hi19 hb19
  simp only [Act.put, List.setIfInBounds_toArray, List.set_cons_succ, List.set_cons_zero]
  refine wpList_ints rfl rfl [11, 0] (by decide) (by decide) rfl #[(0, .int .i64 11), (1, .int .i64 0)] (by simp only [List.map_toArray, List.map_cons, List.map_nil]; rfl) rfl ?_
  intro g20 x20 hi20 hb20 _
  have hc20 := below_chain hc19 hb20
  have hk20 := Ints.new hk19 hb20
  clear hc19 hk19 hi20 hb20
  simp only [Act.put, List.setIfInBounds_toArray, List.set_cons_succ, List.set_cons_zero]
  have hix : ∀ w, (Instr.index 162 (.agg #[Value.slice none 0 0, Value.slice (some ⟨g0, 0, none⟩) 1 1, Value.slice (some ⟨g1, 0, none⟩) 1 1, Value.slice (some ⟨g2, 0, none⟩) 2 2, Value.slice (some ⟨g3, 0, none⟩) 2 2, Value.slice (some ⟨g4, 0, none⟩) 2 2, Value.slice (some ⟨g5, 0, none⟩) 1 1, Value.slice (some ⟨g6, 0, none⟩) 1 1, Value.slice (some ⟨g7, 0, none⟩) 1 1, Value.slice none 0 0, Value.slice (some ⟨g8, 0, none⟩) 1 1, Value.slice none 0 0, Value.slice (some ⟨g9, 0, none⟩) 2 2, Value.slice (some ⟨g10, 0, none⟩) 2 2, Value.slice (some ⟨g11, 0, none⟩) 1 1, Value.slice (some ⟨g12, 0, none⟩) 2 2, Value.slice (some ⟨g13, 0, none⟩) 1 1, Value.slice (some ⟨g14, 0, none⟩) 2 2, Value.slice (some ⟨g15, 0, none⟩) 2 2, Value.slice (some ⟨g16, 0, none⟩) 2 2, Value.slice (some ⟨g17, 0, none⟩) 2 2, Value.slice (some ⟨g18, 0, none⟩) 1 1, Value.slice (some ⟨g19, 0, none⟩) 2 2, Value.slice (some ⟨g20, 0, none⟩) 2 2]) (.int .i64 21)).run Try.prog w = .ok (Value.slice (some ⟨g18, 0, none⟩) 1 1) w := fun w => index_slices w _ 21 (by decide) rfl
  have c20 := (hc20.cell (block_lt_of_cell c0)).trans c0
  have hcl := clone_ints x20 _ _ hk20 (by decide)
  unfold IntsPost at hcl
  have HZ := Lib.hid (And.intro hc20 hcl)
  clear hc20 hk20 hcl c0
  go_wp2_with (go_at_call 71; (refine Calls.mono HZ.out.2 ?_); rintro e w9 ⟨A9, z9, rfl, ho9, hb9⟩; have H9 := Lib.hid (And.intro ho9 hb9); clear ho9 hb9)
  go_ret
  exact ⟨_, _, _, rfl, rfl, H9.out.1.sees, below_chain HT.out.2.2 (below_chain HZ.out.1 H9.out.2)⟩
set_option maxRecDepth 100000 in
set_option maxHeartbeats 4000000 in
theorem reads_22 (W : World) (p : Pln) (ctx K : Int) (h : Okp p ctx K) (at_ : Nat) (hat : at_ < p.places) (pos layer head row : Int) (hs : (⟨22, pos, layer, head, row⟩ : Stp.Stp) ∈ Stp.placeL p at_) :
    Calls Try.prog 37 #[.agg (planC p ctx K).toArray, .agg #[.int .i64 22, .int .i64 pos, .int .i64 layer, .int .i64 head, .int .i64 row]] W (ReadsPost W (readsL p.places ⟨22, pos, layer, head, row⟩)) := by
  obtain ⟨hb, f1, f2⟩ := h.facts
  have hpb : p.places ≤ 64 := by unfold Pln.places; omega
  have hok := ok_place hb (by omega) hs
  have hra := rat_of W p ctx K h at_ hat 22 pos layer head row hs hok.pos
  obtain ⟨w1, hw1⟩ : ∃ w1, w1 = (W.alloc (.cells (planC p ctx K).toArray 62)).alloc (.cells #[.int .i64 22, .int .i64 pos, .int .i64 layer, .int .i64 head, .int .i64 row] 69) := ⟨_, rfl⟩
  rw [← hw1] at hra
  have HW := Lib.hid hw1
  have HC := Lib.hid hra
  clear hw1 hra hs hok hb f1 f2 hpb hat
  go_enter Try.func37, Try.ntmps37
  go_upto_region 1 with fail
  rw [← HW.out]
  go_upto_region 3 with (first | (refine wpList_load_mid rfl 62 (.tmp 2) rfl W.heap.size 0 rfl (planC p ctx K) _ (rangeAt_whole HC.out.pl) Try.underlying62 rfl plan_size ?_; simp only [Act.put, List.setIfInBounds_toArray, List.set_cons_succ, List.set_cons_zero]) | (refine wpList_load_mid rfl 69 (.tmp 3) rfl (W.heap.size + 1) 0 rfl (Stp.Stp.cells ⟨22, pos, layer, head, row⟩) _ (rangeAt_whole HC.out.st) Try.underlying69 rfl step_size ?_; simp only [Act.put, List.setIfInBounds_toArray, List.set_cons_succ, List.set_cons_zero]) | (go_at_call 85; (with_reducible refine Calls.mono HC.out.has ?_); rintro e w2 ⟨rfl, hb2⟩; have HB := Lib.hid hb2; clear hb2))
  have hst2 := (HB.out.block _ (Array.getElem?_eq_some_iff.1 HC.out.st).1).trans HC.out.st
  have hpl2 := (HB.out.block _ (Array.getElem?_eq_some_iff.1 HC.out.pl).1).trans HC.out.pl
  have c0 : w2.cell? ⟨W.heap.size + 1, 0, none⟩ = some (.int .i64 22) := by rw [cell_of_row _ _ 0 _ _ _ hst2]; rfl
  have c1 : w2.cell? ⟨W.heap.size + 1, 1, none⟩ = some (.int .i64 pos) := by rw [cell_of_row _ _ 1 _ _ _ hst2]; rfl
  have c2 : w2.cell? ⟨W.heap.size + 1, 2, none⟩ = some (.int .i64 layer) := by rw [cell_of_row _ _ 2 _ _ _ hst2]; rfl
  have c4 : w2.cell? ⟨W.heap.size + 1, 4, none⟩ = some (.int .i64 row) := by rw [cell_of_row _ _ 4 _ _ _ hst2]; rfl
  have hb12 := HB.out
  have HT := Lib.hid (And.intro hst2 (And.intro hpl2 (below_chain HC.out.below HB.out)))
  clear hst2 hpl2 hb12
  go_upto_region 14 with fail
  refine wp_region_lit ?_
  clear c1 c2 c4
  refine wpList_ints rfl rfl [0] (by decide) (by decide) rfl #[(0, .int .i64 0)] (by simp only [List.map_toArray, List.map_cons, List.map_nil]; rfl) rfl ?_
  intro g0 x0 hi0 hb0 _
  have hc0 := hb0
  clear hi0 hb0
  simp only [Act.put, List.setIfInBounds_toArray, List.set_cons_succ, List.set_cons_zero]
  refine wpList_ints rfl rfl [1] (by decide) (by decide) rfl #[(0, .int .i64 1)] (by simp only [List.map_toArray, List.map_cons, List.map_nil]; rfl) rfl ?_
  intro g1 x1 hi1 hb1 _
  have hc1 := below_chain hc0 hb1
  clear hi1 hb1 hc0
  simp only [Act.put, List.setIfInBounds_toArray, List.set_cons_succ, List.set_cons_zero]
  refine wpList_ints rfl rfl [2, 3] (by decide) (by decide) rfl #[(0, .int .i64 2), (1, .int .i64 3)] (by simp only [List.map_toArray, List.map_cons, List.map_nil]; rfl) rfl ?_
  intro g2 x2 hi2 hb2 _
  have hc2 := below_chain hc1 hb2
  clear hi2 hb2 hc1
  simp only [Act.put, List.setIfInBounds_toArray, List.set_cons_succ, List.set_cons_zero]
  refine wpList_ints rfl rfl [2, 4] (by decide) (by decide) rfl #[(0, .int .i64 2), (1, .int .i64 4)] (by simp only [List.map_toArray, List.map_cons, List.map_nil]; rfl) rfl ?_
  intro g3 x3 hi3 hb3 _
  have hc3 := below_chain hc2 hb3
  clear hi3 hb3 hc2
  simp only [Act.put, List.setIfInBounds_toArray, List.set_cons_succ, List.set_cons_zero]
  refine wpList_ints rfl rfl [2, 5] (by decide) (by decide) rfl #[(0, .int .i64 2), (1, .int .i64 5)] (by simp only [List.map_toArray, List.map_cons, List.map_nil]; rfl) rfl ?_
  intro g4 x4 hi4 hb4 _
  have hc4 := below_chain hc3 hb4
  clear hi4 hb4 hc3
  simp only [Act.put, List.setIfInBounds_toArray, List.set_cons_succ, List.set_cons_zero]
  refine wpList_ints rfl rfl [3] (by decide) (by decide) rfl #[(0, .int .i64 3)] (by simp only [List.map_toArray, List.map_cons, List.map_nil]; rfl) rfl ?_
  intro g5 x5 hi5 hb5 _
  have hc5 := below_chain hc4 hb5
  clear hi5 hb5 hc4
  simp only [Act.put, List.setIfInBounds_toArray, List.set_cons_succ, List.set_cons_zero]
  refine wpList_ints rfl rfl [4] (by decide) (by decide) rfl #[(0, .int .i64 4)] (by simp only [List.map_toArray, List.map_cons, List.map_nil]; rfl) rfl ?_
  intro g6 x6 hi6 hb6 _
  have hc6 := below_chain hc5 hb6
  clear hi6 hb6 hc5
  simp only [Act.put, List.setIfInBounds_toArray, List.set_cons_succ, List.set_cons_zero]
  refine wpList_ints rfl rfl [5] (by decide) (by decide) rfl #[(0, .int .i64 5)] (by simp only [List.map_toArray, List.map_cons, List.map_nil]; rfl) rfl ?_
  intro g7 x7 hi7 hb7 _
  have hc7 := below_chain hc6 hb7
  clear hi7 hb7 hc6
  simp only [Act.put, List.setIfInBounds_toArray, List.set_cons_succ, List.set_cons_zero]
  refine wpList_ints rfl rfl [7] (by decide) (by decide) rfl #[(0, .int .i64 7)] (by simp only [List.map_toArray, List.map_cons, List.map_nil]; rfl) rfl ?_
  intro g8 x8 hi8 hb8 _
  have hc8 := below_chain hc7 hb8
  clear hi8 hb8 hc7
  simp only [Act.put, List.setIfInBounds_toArray, List.set_cons_succ, List.set_cons_zero]
  refine wpList_ints rfl rfl [6, 10] (by decide) (by decide) rfl #[(0, .int .i64 6), (1, .int .i64 10)] (by simp only [List.map_toArray, List.map_cons, List.map_nil]; rfl) rfl ?_
  intro g9 x9 hi9 hb9 _
  have hc9 := below_chain hc8 hb9
  clear hi9 hb9 hc8
  simp only [Act.put, List.setIfInBounds_toArray, List.set_cons_succ, List.set_cons_zero]
  refine wpList_ints rfl rfl [1, 10] (by decide) (by decide) rfl #[(0, .int .i64 1), (1, .int .i64 10)] (by simp only [List.map_toArray, List.map_cons, List.map_nil]; rfl) rfl ?_
  intro g10 x10 hi10 hb10 _
  have hc10 := below_chain hc9 hb10
  clear hi10 hb10 hc9
  simp only [Act.put, List.setIfInBounds_toArray, List.set_cons_succ, List.set_cons_zero]
  refine wpList_ints rfl rfl [1] (by decide) (by decide) rfl #[(0, .int .i64 1)] (by simp only [List.map_toArray, List.map_cons, List.map_nil]; rfl) rfl ?_
  intro g11 x11 hi11 hb11 _
  have hc11 := below_chain hc10 hb11
  clear hi11 hb11 hc10
  simp only [Act.put, List.setIfInBounds_toArray, List.set_cons_succ, List.set_cons_zero]
  refine wpList_ints rfl rfl [2, 8] (by decide) (by decide) rfl #[(0, .int .i64 2), (1, .int .i64 8)] (by simp only [List.map_toArray, List.map_cons, List.map_nil]; rfl) rfl ?_
  intro g12 x12 hi12 hb12 _
  have hc12 := below_chain hc11 hb12
  clear hi12 hb12 hc11
  simp only [Act.put, List.setIfInBounds_toArray, List.set_cons_succ, List.set_cons_zero]
  refine wpList_ints rfl rfl [8] (by decide) (by decide) rfl #[(0, .int .i64 8)] (by simp only [List.map_toArray, List.map_cons, List.map_nil]; rfl) rfl ?_
  intro g13 x13 hi13 hb13 _
  have hc13 := below_chain hc12 hb13
  clear hi13 hb13 hc12
  simp only [Act.put, List.setIfInBounds_toArray, List.set_cons_succ, List.set_cons_zero]
  refine wpList_ints rfl rfl [2, 9] (by decide) (by decide) rfl #[(0, .int .i64 2), (1, .int .i64 9)] (by simp only [List.map_toArray, List.map_cons, List.map_nil]; rfl) rfl ?_
  intro g14 x14 hi14 hb14 _
  have hc14 := below_chain hc13 hb14
  clear hi14 hb14 hc13
  simp only [Act.put, List.setIfInBounds_toArray, List.set_cons_succ, List.set_cons_zero]
  refine wpList_ints rfl rfl [8, 9] (by decide) (by decide) rfl #[(0, .int .i64 8), (1, .int .i64 9)] (by simp only [List.map_toArray, List.map_cons, List.map_nil]; rfl) rfl ?_
  intro g15 x15 hi15 hb15 _
  have hc15 := below_chain hc14 hb15
  clear hi15 hb15 hc14
  simp only [Act.put, List.setIfInBounds_toArray, List.set_cons_succ, List.set_cons_zero]
  refine wpList_ints rfl rfl [8, 10] (by decide) (by decide) rfl #[(0, .int .i64 8), (1, .int .i64 10)] (by simp only [List.map_toArray, List.map_cons, List.map_nil]; rfl) rfl ?_
  intro g16 x16 hi16 hb16 _
  have hc16 := below_chain hc15 hb16
  clear hi16 hb16 hc15
  simp only [Act.put, List.setIfInBounds_toArray, List.set_cons_succ, List.set_cons_zero]
  refine wpList_ints rfl rfl [1, 10] (by decide) (by decide) rfl #[(0, .int .i64 1), (1, .int .i64 10)] (by simp only [List.map_toArray, List.map_cons, List.map_nil]; rfl) rfl ?_
  intro g17 x17 hi17 hb17 _
  have hc17 := below_chain hc16 hb17
  clear hi17 hb17 hc16
  simp only [Act.put, List.setIfInBounds_toArray, List.set_cons_succ, List.set_cons_zero]
  refine wpList_ints rfl rfl [1] (by decide) (by decide) rfl #[(0, .int .i64 1)] (by simp only [List.map_toArray, List.map_cons, List.map_nil]; rfl) rfl ?_
  intro g18 x18 hi18 hb18 _
  have hc18 := below_chain hc17 hb18
  clear hi18 hb18 hc17
  simp only [Act.put, List.setIfInBounds_toArray, List.set_cons_succ, List.set_cons_zero]
  refine wpList_ints rfl rfl [2, 11] (by decide) (by decide) rfl #[(0, .int .i64 2), (1, .int .i64 11)] (by simp only [List.map_toArray, List.map_cons, List.map_nil]; rfl) rfl ?_
  intro g19 x19 hi19 hb19 _
  have hc19 := below_chain hc18 hb19
  clear hc18
  have hk19 := hi19
  clear hi19 hb19
  simp only [Act.put, List.setIfInBounds_toArray, List.set_cons_succ, List.set_cons_zero]
  refine wpList_ints rfl rfl [11, 0] (by decide) (by decide) rfl #[(0, .int .i64 11), (1, .int .i64 0)] (by simp only [List.map_toArray, List.map_cons, List.map_nil]; rfl) rfl ?_
  intro g20 x20 hi20 hb20 _
  have hc20 := below_chain hc19 hb20
  have hk20 := Ints.new hk19 hb20
  clear hc19 hk19 hi20 hb20
  simp only [Act.put, List.setIfInBounds_toArray, List.set_cons_succ, List.set_cons_zero]
  have hix : ∀ w, (Instr.index 162 (.agg #[Value.slice none 0 0, Value.slice (some ⟨g0, 0, none⟩) 1 1, Value.slice (some ⟨g1, 0, none⟩) 1 1, Value.slice (some ⟨g2, 0, none⟩) 2 2, Value.slice (some ⟨g3, 0, none⟩) 2 2, Value.slice (some ⟨g4, 0, none⟩) 2 2, Value.slice (some ⟨g5, 0, none⟩) 1 1, Value.slice (some ⟨g6, 0, none⟩) 1 1, Value.slice (some ⟨g7, 0, none⟩) 1 1, Value.slice none 0 0, Value.slice (some ⟨g8, 0, none⟩) 1 1, Value.slice none 0 0, Value.slice (some ⟨g9, 0, none⟩) 2 2, Value.slice (some ⟨g10, 0, none⟩) 2 2, Value.slice (some ⟨g11, 0, none⟩) 1 1, Value.slice (some ⟨g12, 0, none⟩) 2 2, Value.slice (some ⟨g13, 0, none⟩) 1 1, Value.slice (some ⟨g14, 0, none⟩) 2 2, Value.slice (some ⟨g15, 0, none⟩) 2 2, Value.slice (some ⟨g16, 0, none⟩) 2 2, Value.slice (some ⟨g17, 0, none⟩) 2 2, Value.slice (some ⟨g18, 0, none⟩) 1 1, Value.slice (some ⟨g19, 0, none⟩) 2 2, Value.slice (some ⟨g20, 0, none⟩) 2 2]) (.int .i64 22)).run Try.prog w = .ok (Value.slice (some ⟨g19, 0, none⟩) 2 2) w := fun w => index_slices w _ 22 (by decide) rfl
  have c20 := (hc20.cell (block_lt_of_cell c0)).trans c0
  have hcl := clone_ints x20 _ _ hk20 (by decide)
  unfold IntsPost at hcl
  have HZ := Lib.hid (And.intro hc20 hcl)
  clear hc20 hk20 hcl c0
  go_wp2_with (go_at_call 71; (refine Calls.mono HZ.out.2 ?_); rintro e w9 ⟨A9, z9, rfl, ho9, hb9⟩; have H9 := Lib.hid (And.intro ho9 hb9); clear ho9 hb9)
  go_ret
  exact ⟨_, _, _, rfl, rfl, H9.out.1.sees, below_chain HT.out.2.2 (below_chain HZ.out.1 H9.out.2)⟩
set_option maxRecDepth 100000 in
set_option maxHeartbeats 4000000 in
theorem reads_23 (W : World) (p : Pln) (ctx K : Int) (h : Okp p ctx K) (at_ : Nat) (hat : at_ < p.places) (pos layer head row : Int) (hs : (⟨23, pos, layer, head, row⟩ : Stp.Stp) ∈ Stp.placeL p at_) :
    Calls Try.prog 37 #[.agg (planC p ctx K).toArray, .agg #[.int .i64 23, .int .i64 pos, .int .i64 layer, .int .i64 head, .int .i64 row]] W (ReadsPost W (readsL p.places ⟨23, pos, layer, head, row⟩)) := by
  obtain ⟨hb, f1, f2⟩ := h.facts
  have hpb : p.places ≤ 64 := by unfold Pln.places; omega
  have hok := ok_place hb (by omega) hs
  have hra := rat_of W p ctx K h at_ hat 23 pos layer head row hs hok.pos
  obtain ⟨w1, hw1⟩ : ∃ w1, w1 = (W.alloc (.cells (planC p ctx K).toArray 62)).alloc (.cells #[.int .i64 23, .int .i64 pos, .int .i64 layer, .int .i64 head, .int .i64 row] 69) := ⟨_, rfl⟩
  rw [← hw1] at hra
  have HW := Lib.hid hw1
  have HC := Lib.hid hra
  clear hw1 hra hs hok hb f1 f2 hpb hat
  go_enter Try.func37, Try.ntmps37
  go_upto_region 1 with fail
  rw [← HW.out]
  go_upto_region 3 with (first | (refine wpList_load_mid rfl 62 (.tmp 2) rfl W.heap.size 0 rfl (planC p ctx K) _ (rangeAt_whole HC.out.pl) Try.underlying62 rfl plan_size ?_; simp only [Act.put, List.setIfInBounds_toArray, List.set_cons_succ, List.set_cons_zero]) | (refine wpList_load_mid rfl 69 (.tmp 3) rfl (W.heap.size + 1) 0 rfl (Stp.Stp.cells ⟨23, pos, layer, head, row⟩) _ (rangeAt_whole HC.out.st) Try.underlying69 rfl step_size ?_; simp only [Act.put, List.setIfInBounds_toArray, List.set_cons_succ, List.set_cons_zero]) | (go_at_call 85; (with_reducible refine Calls.mono HC.out.has ?_); rintro e w2 ⟨rfl, hb2⟩; have HB := Lib.hid hb2; clear hb2))
  have hst2 := (HB.out.block _ (Array.getElem?_eq_some_iff.1 HC.out.st).1).trans HC.out.st
  have hpl2 := (HB.out.block _ (Array.getElem?_eq_some_iff.1 HC.out.pl).1).trans HC.out.pl
  have c0 : w2.cell? ⟨W.heap.size + 1, 0, none⟩ = some (.int .i64 23) := by rw [cell_of_row _ _ 0 _ _ _ hst2]; rfl
  have c1 : w2.cell? ⟨W.heap.size + 1, 1, none⟩ = some (.int .i64 pos) := by rw [cell_of_row _ _ 1 _ _ _ hst2]; rfl
  have c2 : w2.cell? ⟨W.heap.size + 1, 2, none⟩ = some (.int .i64 layer) := by rw [cell_of_row _ _ 2 _ _ _ hst2]; rfl
  have c4 : w2.cell? ⟨W.heap.size + 1, 4, none⟩ = some (.int .i64 row) := by rw [cell_of_row _ _ 4 _ _ _ hst2]; rfl
  have hb12 := HB.out
  have HT := Lib.hid (And.intro hst2 (And.intro hpl2 (below_chain HC.out.below HB.out)))
  clear hst2 hpl2 hb12
  go_upto_region 14 with fail
  refine wp_region_lit ?_
  clear c1 c2 c4
  refine wpList_ints rfl rfl [0] (by decide) (by decide) rfl #[(0, .int .i64 0)] (by simp only [List.map_toArray, List.map_cons, List.map_nil]; rfl) rfl ?_
  intro g0 x0 hi0 hb0 _
  have hc0 := hb0
  clear hi0 hb0
  simp only [Act.put, List.setIfInBounds_toArray, List.set_cons_succ, List.set_cons_zero]
  refine wpList_ints rfl rfl [1] (by decide) (by decide) rfl #[(0, .int .i64 1)] (by simp only [List.map_toArray, List.map_cons, List.map_nil]; rfl) rfl ?_
  intro g1 x1 hi1 hb1 _
  have hc1 := below_chain hc0 hb1
  clear hi1 hb1 hc0
  simp only [Act.put, List.setIfInBounds_toArray, List.set_cons_succ, List.set_cons_zero]
  refine wpList_ints rfl rfl [2, 3] (by decide) (by decide) rfl #[(0, .int .i64 2), (1, .int .i64 3)] (by simp only [List.map_toArray, List.map_cons, List.map_nil]; rfl) rfl ?_
  intro g2 x2 hi2 hb2 _
  have hc2 := below_chain hc1 hb2
  clear hi2 hb2 hc1
  simp only [Act.put, List.setIfInBounds_toArray, List.set_cons_succ, List.set_cons_zero]
  refine wpList_ints rfl rfl [2, 4] (by decide) (by decide) rfl #[(0, .int .i64 2), (1, .int .i64 4)] (by simp only [List.map_toArray, List.map_cons, List.map_nil]; rfl) rfl ?_
  intro g3 x3 hi3 hb3 _
  have hc3 := below_chain hc2 hb3
  clear hi3 hb3 hc2
  simp only [Act.put, List.setIfInBounds_toArray, List.set_cons_succ, List.set_cons_zero]
  refine wpList_ints rfl rfl [2, 5] (by decide) (by decide) rfl #[(0, .int .i64 2), (1, .int .i64 5)] (by simp only [List.map_toArray, List.map_cons, List.map_nil]; rfl) rfl ?_
  intro g4 x4 hi4 hb4 _
  have hc4 := below_chain hc3 hb4
  clear hi4 hb4 hc3
  simp only [Act.put, List.setIfInBounds_toArray, List.set_cons_succ, List.set_cons_zero]
  refine wpList_ints rfl rfl [3] (by decide) (by decide) rfl #[(0, .int .i64 3)] (by simp only [List.map_toArray, List.map_cons, List.map_nil]; rfl) rfl ?_
  intro g5 x5 hi5 hb5 _
  have hc5 := below_chain hc4 hb5
  clear hi5 hb5 hc4
  simp only [Act.put, List.setIfInBounds_toArray, List.set_cons_succ, List.set_cons_zero]
  refine wpList_ints rfl rfl [4] (by decide) (by decide) rfl #[(0, .int .i64 4)] (by simp only [List.map_toArray, List.map_cons, List.map_nil]; rfl) rfl ?_
  intro g6 x6 hi6 hb6 _
  have hc6 := below_chain hc5 hb6
  clear hi6 hb6 hc5
  simp only [Act.put, List.setIfInBounds_toArray, List.set_cons_succ, List.set_cons_zero]
  refine wpList_ints rfl rfl [5] (by decide) (by decide) rfl #[(0, .int .i64 5)] (by simp only [List.map_toArray, List.map_cons, List.map_nil]; rfl) rfl ?_
  intro g7 x7 hi7 hb7 _
  have hc7 := below_chain hc6 hb7
  clear hi7 hb7 hc6
  simp only [Act.put, List.setIfInBounds_toArray, List.set_cons_succ, List.set_cons_zero]
  refine wpList_ints rfl rfl [7] (by decide) (by decide) rfl #[(0, .int .i64 7)] (by simp only [List.map_toArray, List.map_cons, List.map_nil]; rfl) rfl ?_
  intro g8 x8 hi8 hb8 _
  have hc8 := below_chain hc7 hb8
  clear hi8 hb8 hc7
  simp only [Act.put, List.setIfInBounds_toArray, List.set_cons_succ, List.set_cons_zero]
  refine wpList_ints rfl rfl [6, 10] (by decide) (by decide) rfl #[(0, .int .i64 6), (1, .int .i64 10)] (by simp only [List.map_toArray, List.map_cons, List.map_nil]; rfl) rfl ?_
  intro g9 x9 hi9 hb9 _
  have hc9 := below_chain hc8 hb9
  clear hi9 hb9 hc8
  simp only [Act.put, List.setIfInBounds_toArray, List.set_cons_succ, List.set_cons_zero]
  refine wpList_ints rfl rfl [1, 10] (by decide) (by decide) rfl #[(0, .int .i64 1), (1, .int .i64 10)] (by simp only [List.map_toArray, List.map_cons, List.map_nil]; rfl) rfl ?_
  intro g10 x10 hi10 hb10 _
  have hc10 := below_chain hc9 hb10
  clear hi10 hb10 hc9
  simp only [Act.put, List.setIfInBounds_toArray, List.set_cons_succ, List.set_cons_zero]
  refine wpList_ints rfl rfl [1] (by decide) (by decide) rfl #[(0, .int .i64 1)] (by simp only [List.map_toArray, List.map_cons, List.map_nil]; rfl) rfl ?_
  intro g11 x11 hi11 hb11 _
  have hc11 := below_chain hc10 hb11
  clear hi11 hb11 hc10
  simp only [Act.put, List.setIfInBounds_toArray, List.set_cons_succ, List.set_cons_zero]
  refine wpList_ints rfl rfl [2, 8] (by decide) (by decide) rfl #[(0, .int .i64 2), (1, .int .i64 8)] (by simp only [List.map_toArray, List.map_cons, List.map_nil]; rfl) rfl ?_
  intro g12 x12 hi12 hb12 _
  have hc12 := below_chain hc11 hb12
  clear hi12 hb12 hc11
  simp only [Act.put, List.setIfInBounds_toArray, List.set_cons_succ, List.set_cons_zero]
  refine wpList_ints rfl rfl [8] (by decide) (by decide) rfl #[(0, .int .i64 8)] (by simp only [List.map_toArray, List.map_cons, List.map_nil]; rfl) rfl ?_
  intro g13 x13 hi13 hb13 _
  have hc13 := below_chain hc12 hb13
  clear hi13 hb13 hc12
  simp only [Act.put, List.setIfInBounds_toArray, List.set_cons_succ, List.set_cons_zero]
  refine wpList_ints rfl rfl [2, 9] (by decide) (by decide) rfl #[(0, .int .i64 2), (1, .int .i64 9)] (by simp only [List.map_toArray, List.map_cons, List.map_nil]; rfl) rfl ?_
  intro g14 x14 hi14 hb14 _
  have hc14 := below_chain hc13 hb14
  clear hi14 hb14 hc13
  simp only [Act.put, List.setIfInBounds_toArray, List.set_cons_succ, List.set_cons_zero]
  refine wpList_ints rfl rfl [8, 9] (by decide) (by decide) rfl #[(0, .int .i64 8), (1, .int .i64 9)] (by simp only [List.map_toArray, List.map_cons, List.map_nil]; rfl) rfl ?_
  intro g15 x15 hi15 hb15 _
  have hc15 := below_chain hc14 hb15
  clear hi15 hb15 hc14
  simp only [Act.put, List.setIfInBounds_toArray, List.set_cons_succ, List.set_cons_zero]
  refine wpList_ints rfl rfl [8, 10] (by decide) (by decide) rfl #[(0, .int .i64 8), (1, .int .i64 10)] (by simp only [List.map_toArray, List.map_cons, List.map_nil]; rfl) rfl ?_
  intro g16 x16 hi16 hb16 _
  have hc16 := below_chain hc15 hb16
  clear hi16 hb16 hc15
  simp only [Act.put, List.setIfInBounds_toArray, List.set_cons_succ, List.set_cons_zero]
  refine wpList_ints rfl rfl [1, 10] (by decide) (by decide) rfl #[(0, .int .i64 1), (1, .int .i64 10)] (by simp only [List.map_toArray, List.map_cons, List.map_nil]; rfl) rfl ?_
  intro g17 x17 hi17 hb17 _
  have hc17 := below_chain hc16 hb17
  clear hi17 hb17 hc16
  simp only [Act.put, List.setIfInBounds_toArray, List.set_cons_succ, List.set_cons_zero]
  refine wpList_ints rfl rfl [1] (by decide) (by decide) rfl #[(0, .int .i64 1)] (by simp only [List.map_toArray, List.map_cons, List.map_nil]; rfl) rfl ?_
  intro g18 x18 hi18 hb18 _
  have hc18 := below_chain hc17 hb18
  clear hi18 hb18 hc17
  simp only [Act.put, List.setIfInBounds_toArray, List.set_cons_succ, List.set_cons_zero]
  refine wpList_ints rfl rfl [2, 11] (by decide) (by decide) rfl #[(0, .int .i64 2), (1, .int .i64 11)] (by simp only [List.map_toArray, List.map_cons, List.map_nil]; rfl) rfl ?_
  intro g19 x19 hi19 hb19 _
  have hc19 := below_chain hc18 hb19
  clear hi19 hb19 hc18
  simp only [Act.put, List.setIfInBounds_toArray, List.set_cons_succ, List.set_cons_zero]
  refine wpList_ints rfl rfl [11, 0] (by decide) (by decide) rfl #[(0, .int .i64 11), (1, .int .i64 0)] (by simp only [List.map_toArray, List.map_cons, List.map_nil]; rfl) rfl ?_
  intro g20 x20 hi20 hb20 _
  have hc20 := below_chain hc19 hb20
  clear hc19
  have hk20 := hi20
  clear hi20 hb20
  simp only [Act.put, List.setIfInBounds_toArray, List.set_cons_succ, List.set_cons_zero]
  have hix : ∀ w, (Instr.index 162 (.agg #[Value.slice none 0 0, Value.slice (some ⟨g0, 0, none⟩) 1 1, Value.slice (some ⟨g1, 0, none⟩) 1 1, Value.slice (some ⟨g2, 0, none⟩) 2 2, Value.slice (some ⟨g3, 0, none⟩) 2 2, Value.slice (some ⟨g4, 0, none⟩) 2 2, Value.slice (some ⟨g5, 0, none⟩) 1 1, Value.slice (some ⟨g6, 0, none⟩) 1 1, Value.slice (some ⟨g7, 0, none⟩) 1 1, Value.slice none 0 0, Value.slice (some ⟨g8, 0, none⟩) 1 1, Value.slice none 0 0, Value.slice (some ⟨g9, 0, none⟩) 2 2, Value.slice (some ⟨g10, 0, none⟩) 2 2, Value.slice (some ⟨g11, 0, none⟩) 1 1, Value.slice (some ⟨g12, 0, none⟩) 2 2, Value.slice (some ⟨g13, 0, none⟩) 1 1, Value.slice (some ⟨g14, 0, none⟩) 2 2, Value.slice (some ⟨g15, 0, none⟩) 2 2, Value.slice (some ⟨g16, 0, none⟩) 2 2, Value.slice (some ⟨g17, 0, none⟩) 2 2, Value.slice (some ⟨g18, 0, none⟩) 1 1, Value.slice (some ⟨g19, 0, none⟩) 2 2, Value.slice (some ⟨g20, 0, none⟩) 2 2]) (.int .i64 23)).run Try.prog w = .ok (Value.slice (some ⟨g20, 0, none⟩) 2 2) w := fun w => index_slices w _ 23 (by decide) rfl
  have c20 := (hc20.cell (block_lt_of_cell c0)).trans c0
  have hcl := clone_ints x20 _ _ hk20 (by decide)
  unfold IntsPost at hcl
  have HZ := Lib.hid (And.intro hc20 hcl)
  clear hc20 hk20 hcl c0
  go_wp2_with (go_at_call 71; (refine Calls.mono HZ.out.2 ?_); rintro e w9 ⟨A9, z9, rfl, ho9, hb9⟩; have H9 := Lib.hid (And.intro ho9 hb9); clear ho9 hb9)
  go_ret
  exact ⟨_, _, _, rfl, rfl, H9.out.1.sees, below_chain HT.out.2.2 (below_chain HZ.out.1 H9.out.2)⟩
end Go.Proofs.Ytfhaebaegkpkhaa.Tl
