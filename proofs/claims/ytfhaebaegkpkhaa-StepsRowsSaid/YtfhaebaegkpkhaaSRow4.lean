/- steps.Row: the matrices of a layer. -/
import Derived.Test.YtfhaebaegkpkhaaSRow2
import Derived.Test.YtfhaebaegkpkhaaQFork
set_option linter.unusedVariables false
set_option linter.unusedSimpArgs false
namespace Go.Proofs.Ytfhaebaegkpkhaa.Fil
open Go.RowKit OwnS Byt QTail Cfg Ten Bpe RevL
attribute [local go_sem ↓] Kit.execOp_call_slot
attribute [local go_sem] Kit.callSlot_func
theorem lay_size : (Try.prog.info? 56).map (·.size) = some 23 := by kernel_rfl
theorem wpQuiet_load_lay {ops : Array Oper} {C : World → Prop} {Q : Act → Prop} {rest : List Oper} {op : Oper} {a : Act} (hgd : op.guard = none) (x : Operand) (ho : op.op = .load 56 x)
    (g p : Nat) (hx : a.eval x = .pointer (some ⟨g, p, none⟩)) (D : Lay × LayH) (hS : ∀ w, C w → w.rangeAt g p (layC D))
    (h : wpQuiet Try.prog ops C Q rest (a.put op.dst (.agg (layC D).toArray))) : wpQuiet Try.prog ops C Q (op :: rest) a :=
  wpQuiet_load_mid hgd 56 x ho g p hx (layC D) _ hS Try.underlying56 rfl lay_size h
set_option maxRecDepth 100000 in
set_option maxHeartbeats 4000000 in
theorem srow_mat (W : World) (M : Mod) (h : ModH) (H : List (Lay × LayH)) (x : ModSees W M h H) (ha : 1 ≤ M.al.length ∧ M.al.length ≤ 512) (he : M.err = 0) (kd layer row : Int) (hkd : isMat kd) (hrow : -9223372036854775808 ≤ row ∧ row ≤ 9223372036854775807) (hp : (M.c.place ⟨kd, layer, row⟩).2 = 0) :
    Calls Try.prog 21 #[.agg (modC M h).toArray, .agg #[.int .i64 kd, .int .i64 layer, .int .i64 row]] W (RowPost W (rowOf (layM (M.lay layer) kd).cols.toNat row.toNat (layM (M.lay layer) kd).l)) := by
  have n1 : (kd == 1) = false := by unfold isMat at hkd; simp; omega
  have n12 : (kd == 12) = false := by unfold isMat at hkd; simp; omega
  have n11 : (kd == 11) = false := by unfold isMat at hkd; simp; omega
  have n2 : (kd == 2) = false := by unfold isMat at hkd; simp; omega
  have n7 : (kd == 7) = false := by unfold isMat at hkd; simp; omega
  obtain ⟨⟨hl0, hl1⟩, hme, hr0, hr1⟩ : (0 ≤ layer ∧ layer < M.ls.length) ∧ matErr (layM (M.lay layer) kd) = 0 ∧ 0 ≤ row ∧ row < (layM (M.lay layer) kd).rows := by
    rcases part_cases he hp with ⟨hk, -⟩ | ⟨hk, h1, h2, h3⟩
    · simp only at hk
      unfold isMat at hkd
      omega
    · simp only at h1 h2 h3 hk
      rw [mat_layM M kd layer (by unfold isMat at hkd; omega) (by unfold isMat at hkd; omega)] at h1 h3
      rcases hk with hk | hk | ⟨-, hk⟩
      · unfold isMat at hkd; omega
      · unfold isMat at hkd; omega
      · exact ⟨hk, h1, h2, h3⟩
  obtain ⟨i, rfl⟩ := Int.eq_ofNat_of_zero_le hl0
  obtain ⟨k, rfl⟩ := Int.eq_ofNat_of_zero_le hr0
  have hi' : i < M.ls.length := by omega
  obtain ⟨r, c, hr, hc, hmm⟩ := mat_nat hme
  have hkr : k < r := by omega
  rw [hc, Int.toNat_natCast, Int.toNat_natCast]
  obtain ⟨w1, hw1⟩ : ∃ w1, w1 = (W.alloc (.cells (modC M h).toArray 31)).alloc (.cells #[.int .i64 kd, .int .i64 (i : Int), .int .i64 (k : Int)] 33) := ⟨_, rfl⟩
  have hpre := rpre W M h H x kd (i : Int) (k : Int)
  rw [← hw1] at hpre
  obtain ⟨v1, hv1⟩ : ∃ v1, v1 = (M.c.place ⟨kd, (i : Int), (k : Int)⟩).1 := ⟨_, rfl⟩
  have hpl := place_any M.c ⟨kd, (i : Int), (k : Int)⟩ w1 hrow
  rw [hp, ← hv1] at hpl
  have hck := fun w (hw : Below w1.heap.size w1 w) => wchk_any w M h H (hpre.wat.sees.new hw) ha
  rw [he] at hck
  obtain ⟨p, g, o, cap, hH, hM, hls, hra, hsee, hg⟩ := hpre.wat.sees.layer hi'
  rw [hM] at hr hc hmm ⊢
  obtain ⟨L, lh⟩ := p
  simp only at hr hc hmm hsee hra ⊢
  obtain ⟨AM, cM, fM⟩ := (LaySees.mat hsee kd).form
  have hmx := fun w (hw : Below w1.heap.size w1 w) => mx_any w L lh (hsee.new hw) kd hkd
  have hro := fun w (hw : Below w1.heap.size w1 w) => Row_some w _ r c k (layM L kd).l ((LaySees.mat hsee kd).new hw) hmm hkr
  rw [fM] at hmx hro
  rw [hr, hc] at hmx
  obtain ⟨lM, hlM⟩ : ∃ lM, lM = (layM L kd).l := ⟨_, rfl⟩
  rw [← hlM] at hmx hro ⊢
  obtain ⟨nM, hnM⟩ : ∃ nM, nM = lM.length := ⟨_, rfl⟩
  rw [← hnM] at hmx hro
  obtain ⟨a1, z1, a2, z2, a3, z3, a4, z4, a5, z5, a6, z6, rfl⟩ := shapes x
  simp only at hls
  injection hls with hls1 hls2 hls3
  subst hls1 hls3
  clear hls2 fM hlM hnM
  have hlc := fun w (hw : Below w1.heap.size w1 w) => (fun j v hj => (hw.cell (block_lt_of_cell (hra j v hj))).trans (hra j v hj) : w.rangeAt g (o + i * 23) (layC (L, lh)))
  have hlt : (i : Int) < (M.ls.length : Int) := by omega
  obtain ⟨k1, hk1⟩ : ∃ k, k = M.al.length := ⟨_, rfl⟩
  obtain ⟨k3, hk3⟩ : ∃ k, k = M.em.l.length := ⟨_, rfl⟩
  obtain ⟨k4, hk4⟩ : ∃ k, k = M.ls.length := ⟨_, rfl⟩
  obtain ⟨k5, hk5⟩ : ∃ k, k = M.norm.length := ⟨_, rfl⟩
  obtain ⟨k6, hk6⟩ : ∃ k, k = M.out.l.length := ⟨_, rfl⟩
  unfold RowPost
  unfold modC at hck hw1 ⊢
  simp only at hck hw1 ⊢
  rw [← hk1, ← hk3, ← hk4, ← hk5, ← hk6] at hck hw1 ⊢
  rw [← hk4] at hlt
  have hcells := fun w (hw : Below w1.heap.size w1 w) => rcells (hpre.wat.new hw)
  simp only [← hk1, ← hk3, ← hk4, ← hk5, ← hk6] at hcells
  obtain ⟨c0, c1, c2, c3, c4, c5, -⟩ := hcells w1 (Below.refl _ _)
  have q0 := hpre.q0
  have q1 := hpre.q1
  have q2 := hpre.q2
  have HC := Lib.hid (And.intro hpl (And.intro hck (And.intro hmx (And.intro hcells (And.intro hpre (And.intro hlc hro))))))
  have HW := Lib.hid hw1
  clear hpl hck hmx hcells hpre hw1 x hp hv1 hk1 hk3 hk4 hk5 hk6 he ha hme hlc hro hmm hr0 hr1 hH hM hra hsee hi' hl0 hl1 hr hc hkr hkd
  go_enter Try.func21, Try.ntmps21
  go_upto_region 1 with fail
  rw [← HW.out]
  go_upto_region 15 with (first | (go_at_call 14; (with_reducible refine Calls.mono HC.out.1 ?_); rintro e w2 ⟨rfl, hb2⟩; obtain ⟨d0, d1, d2, d3, d4, d5, d6, d7, d8, d9, d10, d11, d12, d13, d14, d15⟩ := HC.out.2.2.2.1 w2 hb2; have HB := Lib.hid hb2; clear hb2) | (go_at_call 44; (with_reducible refine Calls.mono (HC.out.2.1 w2 HB.out) ?_); rintro e w3 ⟨rfl, hb3⟩; obtain ⟨e0, e1, e2, e3, e4, e5, e6, e7, e8, e9, e10, e11, e12, e13, e14, e15⟩ := HC.out.2.2.2.1 w3 (below_chain HB.out hb3); have r0 := (HC.out.2.2.2.2.1.new (below_chain HB.out hb3)).q0; have r1 := (HC.out.2.2.2.2.1.new (below_chain HB.out hb3)).q1; have r2 := (HC.out.2.2.2.2.1.new (below_chain HB.out hb3)).q2; have HB3 := Lib.hid (below_chain HB.out hb3); clear hb3 d0 d1 d2 d3 d4 d5 d6 d7 d8 d9 d10 d11 d12 d13 d14 d15))
  have hB3 : Below w1.heap.size w1 w3 := HB3.out
  have hd3 : Below w3.heap.size w3 w3.drew := ⟨rfl, rfl, rfl, Nat.le_refl _, fun _ _ => rfl⟩
  refine wp_region_plan (fun w' => Below w3.heap.size w3 w') (Plan.ofList [0, 1, 2, 3, 4, 5, 6, 7] (.fork 8 (Plan.ofList [9, 10, 11, 12, 13, 14] .nil) 12 (Plan.ofList [8, 9, 10, 11, 13, 14] .nil))) (by kernel_rfl) (by kernel_rfl) (by kernel_rfl) hd3 ?_
  intro I hNI FF hFF
  have G30 : ∀ j, (FF j).cell? ⟨W.heap.size, 11, none⟩ = _ := fun j => ((hFF j).cell (block_lt_of_cell e11)).trans e11
  have G31 : ∀ j, (FF j).cell? ⟨W.heap.size + 1, 0, none⟩ = _ := fun j => ((hFF j).cell (block_lt_of_cell r0)).trans r0
  have G32 : ∀ j, (FF j).cell? ⟨W.heap.size + 1, 1, none⟩ = _ := fun j => ((hFF j).cell (block_lt_of_cell r1)).trans r1
  have G := fun j => HC.out.2.2.2.2.2.1 (FF j) (below_chain hB3 (hFF j))
  have HX := Lib.hid (And.intro hB3 (And.intro hd3 G))
  have HR2 := Lib.hid r2
  clear hFF hB3 G e0 e1 e2 e3 e4 e5 e6 e7 e8 e9 e10 e11 e12 e13 e14 e15 r0 r1 r2 c0 c1 c2 c3 c4 c5 q0 q1 q2
  simp only [Plan.ofList, Plan.lay, List.getElem?_cons_succ, List.getElem?_cons_zero]
  iterate 5 (refine plan_take rfl ?_; go_big_quiet_step (fail); refine wpQuiet_nil ?_)
  refine plan_take rfl ?_
  refine wpQuiet_load_lay rfl (.tmp 74) rfl g (o + i * 23) rfl (L, lh) (by rintro _ ⟨j, rfl⟩; exact HX.out.2.2 j) ?_
  simp only [Act.put, List.setIfInBounds_toArray, List.set_cons_succ, List.set_cons_zero]
  refine wpQuiet_nil ?_
  iterate 2 (refine plan_take rfl ?_; go_big_quiet_step (fail); refine wpQuiet_nil ?_)
  refine plan_fork ?_ ?_
  · go_wp2_with (go_at_call 72; (with_reducible refine Calls.mono (HC.out.2.2.1 _ (below_chain HX.out.1 HX.out.2.1)) ?_); rintro e w4 ⟨rfl, hb4⟩; have hb4' := below_chain HX.out.2.1 hb4; have H4 := Lib.hid hb4'; clear hb4 hb4')
    refine ⟨rfl, H4.out, ?_⟩
    iterate 3 (refine plan_take rfl ?_; go_big_quiet_step (fail); refine wpQuiet_nil ?_)
    refine plan_step rfl ?_
    go_wp2_with fail
    refine ⟨rfl, H4.out.alloc H4.out.size _, ?_⟩
    refine plan_step rfl ?_
    go_wp2_with fail
    have hb36 := H4.out.alloc H4.out.size (.cells #[Value.int IntKind.i64 (r : Int), Value.int IntKind.i64 (c : Int), Value.slice AM nM cM] 28)
    refine ⟨rfl, hb36, ?_⟩
    have hz := heap_alloc_new w4 (.cells #[Value.int IntKind.i64 (r : Int), Value.int IntKind.i64 (c : Int), Value.slice AM nM cM] 28)
    obtain ⟨w6, hw6⟩ : ∃ w6, w6 = w4.alloc (.cells #[Value.int IntKind.i64 (r : Int), Value.int IntKind.i64 (c : Int), Value.slice AM nM cM] 28) := ⟨_, rfl⟩
    rw [← hw6] at hb36 hz ⊢
    have z0 : w6.cell? ⟨w4.heap.size, 0, none⟩ = some (.int .i64 (r : Int)) := by rw [cell_of_row _ _ 0 _ _ _ hz]; rfl
    have z1 : w6.cell? ⟨w4.heap.size, 1, none⟩ = some (.int .i64 (c : Int)) := by rw [cell_of_row _ _ 1 _ _ _ hz]; rfl
    have z2 : w6.cell? ⟨w4.heap.size, 2, none⟩ = some (.slice AM nM cM) := by rw [cell_of_row _ _ 2 _ _ _ hz]; rfl
    clear hz
    have hb6 : Below w1.heap.size w1 w6 := below_chain HX.out.1 hb36
    have r26 : w6.cell? ⟨W.heap.size + 1, 2, none⟩ = some (.int .i64 (k : Int)) := (hb36.cell (block_lt_of_cell HR2.out)).trans HR2.out
    have H6 := Lib.hid (And.intro hb6 hw6)
    clear hb6 hw6 hb36
    refine plan_take rfl ?_
    go_big_quiet_step (fail)
    refine wpQuiet_nil ?_
    refine plan_nil ?_
    go_wp2_with (go_at_call 22; (with_reducible refine Calls.mono (HC.out.2.2.2.2.2.2 w6 H6.out.1) ?_); rintro e w7 ⟨A7, z7, rfl, ho7, hl7, hb7⟩; have H7 := Lib.hid (And.intro ho7 (And.intro hl7 hb7)); clear ho7 hl7 hb7)
    go_ret2
    have hb8 := below_chain HC.out.2.2.2.2.1.below H6.out.1
    rw [H7.out.2.1]
    exact ⟨A7, z7, rfl, H7.out.1.mono hb8.size, below_chain hb8 H7.out.2.2⟩
  · go_wp2_with fail
    have hb34 : Below w3.heap.size w3 (w3.alloc (.cells #[Value.int IntKind.i64 0, Value.int IntKind.i64 0, Value.slice none 0 0] 28)).drew := HX.out.2.1.alloc HX.out.2.1.size (.cells #[Value.int IntKind.i64 0, Value.int IntKind.i64 0, Value.slice none 0 0] 28)
    refine ⟨rfl, hb34, ?_⟩
    obtain ⟨w4, hw4⟩ : ∃ w4, w4 = (w3.alloc (.cells #[Value.int IntKind.i64 0, Value.int IntKind.i64 0, Value.slice none 0 0] 28)).drew := ⟨_, rfl⟩
    have hz0 : w4.heap[w3.heap.size]? = some (.cells [Value.int IntKind.i64 0, Value.int IntKind.i64 0, Value.slice none 0 0].toArray 28 (0, 0)) := by rw [hw4]; exact heap_alloc_new w3 _
    rw [← hw4] at hb34 ⊢
    have H4 := Lib.hid (And.intro hb34 (And.intro hw4 hz0))
    clear hb34 hw4 hz0
    refine plan_step rfl ?_
    go_wp2_with (go_at_call 72; (with_reducible refine Calls.mono (HC.out.2.2.1 _ (below_chain HX.out.1 H4.out.1)) ?_); rintro e w5 ⟨rfl, hb5⟩; have hb35 := below_chain H4.out.1 hb5; have H5 := Lib.hid (And.intro hb35 ((hb5.block _ (Array.getElem?_eq_some_iff.1 H4.out.2.2).1).trans H4.out.2.2)); clear hb5 hb35)
    refine ⟨rfl, H5.out.1, ?_⟩
    iterate 3 (refine plan_take rfl ?_; go_big_quiet_step (fail); refine wpQuiet_nil ?_)
    have f0 := frozen_of_row _ _ 0 _ _ H5.out.2
    have f1 := frozen_of_row _ _ 1 _ _ H5.out.2
    have f2 := frozen_of_row _ _ 2 _ _ H5.out.2
    have y0 : w5.cell? ⟨w3.heap.size, 0, none⟩ = some (.int .i64 0) := by rw [cell_of_row _ _ 0 _ _ _ H5.out.2]; rfl
    have y1 : w5.cell? ⟨w3.heap.size, 1, none⟩ = some (.int .i64 0) := by rw [cell_of_row _ _ 1 _ _ _ H5.out.2]; rfl
    have y2 : w5.cell? ⟨w3.heap.size, 2, none⟩ = some (.slice none 0 0) := by rw [cell_of_row _ _ 2 _ _ _ H5.out.2]; rfl
    refine plan_step rfl ?_
    go_wp2_with fail
    have hb36 := ((H5.out.1.setCell (p := ⟨w3.heap.size, 0, none⟩) (Nat.le_refl _) (.int .i64 (r : Int))).setCell (p := ⟨w3.heap.size, 1, none⟩) (Nat.le_refl _) (.int .i64 (c : Int))).setCell (p := ⟨w3.heap.size, 2, none⟩) (Nat.le_refl _) (.slice AM nM cM)
    refine ⟨rfl, hb36, ?_⟩
    have hz := set_cells (set_cells (set_cells H5.out.2 0 (.int .i64 (r : Int))) 1 (.int .i64 (c : Int))) 2 (.slice AM nM cM)
    obtain ⟨w6, hw6⟩ : ∃ w6, w6 = ((w5.setCell ⟨w3.heap.size, 0, none⟩ (.int .i64 (r : Int))).setCell ⟨w3.heap.size, 1, none⟩ (.int .i64 (c : Int))).setCell ⟨w3.heap.size, 2, none⟩ (.slice AM nM cM) := ⟨_, rfl⟩
    rw [← hw6] at hb36 hz ⊢
    clear f0 f1 f2 y0 y1 y2
    have z0 : w6.cell? ⟨w3.heap.size, 0, none⟩ = some (.int .i64 (r : Int)) := by rw [cell_of_row _ _ 0 _ _ _ hz]; rfl
    have z1 : w6.cell? ⟨w3.heap.size, 1, none⟩ = some (.int .i64 (c : Int)) := by rw [cell_of_row _ _ 1 _ _ _ hz]; rfl
    have z2 : w6.cell? ⟨w3.heap.size, 2, none⟩ = some (.slice AM nM cM) := by rw [cell_of_row _ _ 2 _ _ _ hz]; rfl
    clear hz
    have hb6 : Below w1.heap.size w1 w6 := below_chain HX.out.1 hb36
    have r26 : w6.cell? ⟨W.heap.size + 1, 2, none⟩ = some (.int .i64 (k : Int)) := (hb36.cell (block_lt_of_cell HR2.out)).trans HR2.out
    have H6 := Lib.hid (And.intro hb6 hw6)
    clear hb6 hw6 hb36
    refine plan_take rfl ?_
    go_big_quiet_step (fail)
    refine wpQuiet_nil ?_
    refine plan_nil ?_
    go_wp2_with (go_at_call 22; (with_reducible refine Calls.mono (HC.out.2.2.2.2.2.2 w6 H6.out.1) ?_); rintro e w7 ⟨A7, z7, rfl, ho7, hl7, hb7⟩; have H7 := Lib.hid (And.intro ho7 (And.intro hl7 hb7)); clear ho7 hl7 hb7)
    go_ret2
    have hb8 := below_chain HC.out.2.2.2.2.1.below H6.out.1
    rw [H7.out.2.1]
    exact ⟨A7, z7, rfl, H7.out.1.mono hb8.size, below_chain hb8 H7.out.2.2⟩
end Go.Proofs.Ytfhaebaegkpkhaa.Fil
