/- What is wrong with a model (without pairs): the walk over its parts. -/
import Derived.Test.YtfhaebaegkpkhaaWChk0
set_option linter.unusedVariables false
set_option linter.unusedSimpArgs false
namespace Go.Proofs.Ytfhaebaegkpkhaa.Cfg
open Go.RowKit OwnS Byt QTail RevL Ten Bpe Go.Shelf
attribute [local go_sem] Oper.semAt_some
attribute [local go_sem ↓] Kit.execOp_call_slot
attribute [local go_sem] Kit.callSlot_func
theorem firstErr_congr {f f' : Blk → Int} : ∀ {l : List Blk}, (∀ b ∈ l, f b = f' b) → firstErr f l = firstErr f' l
  | [], _ => rfl
  | b :: l, h => by
    unfold firstErr
    rw [h b (List.mem_cons_self ..), firstErr_congr fun x hx => h x (List.mem_cons_of_mem _ hx)]
theorem firstErr_snoc (f : Blk → Int) (l : List Blk) (b : Blk) (h : firstErr f l = 0) : firstErr f (l ++ [b]) = f b := by
  rw [firstErr_append f l _ h]
  show (if f b = 0 then (0 : Int) else f b) = f b
  split
  · rename_i h0; rw [h0]
  · rfl
open Classical in
/-- A part that may be: itself; another one: the first. -/
noncomputable def fixB (M : Mod) (b : Blk) : Blk := if Part_ M b then b else ⟨1, 0, 0, 0, false⟩
theorem fixB_part (M : Mod) (b : Blk) : Part_ M (fixB M b) := by
  unfold fixB
  split
  · assumption
  · exact .inr ⟨rfl, .inl rfl⟩
theorem fixB_of {M : Mod} {b : Blk} (h : Part_ M b) : fixB M b = b := if_pos h
noncomputable def pErr (M : Mod) (b : Blk) : Int := M.partErr (fixB M b)
set_option maxRecDepth 100000 in
set_option maxHeartbeats 4000000 in
theorem wchk_full (W : World) (M : Mod) (h : ModH) (H : List (Lay × LayH)) (x : ModSees W M h H) (ha : 1 ≤ M.al.length ∧ M.al.length ≤ 512) (e1 : M.c.chk = 0) (e2 : bpeErr0 M.al = 0) (e3 : (M.al.length : Int) = M.c.v) (e4 : (M.ls.length : Int) = M.c.l) :
    Calls Try.prog 44 #[.agg (modC M h).toArray] W fun e w' => e = .returned (.int .i64 M.err) ∧ Below W.heap.size W w' := by
  obtain ⟨w1, hw1⟩ : ∃ w1, w1 = W.alloc (.cells (modC M h).toArray 31) := ⟨_, rfl⟩
  obtain ⟨x1, hb1⟩ := wboxed W M h H x
  rw [← hw1] at x1 hb1
  obtain ⟨c0, c1, c2, c3, c4, c5, c6, c7, c11⟩ := wcells x1
  obtain ⟨E, hE⟩ : ∃ E, E = M.err := ⟨_, rfl⟩
  rw [← hE]
  have hck := check_any M.c w1
  obtain ⟨pA, pc, hps⟩ := x1.sees.ps
  obtain ⟨aA, ac, hal, -, -⟩ := x1.sees.al.form
  obtain ⟨lA, lc, hls, -, -⟩ := x1.sees.ls.form
  have hll : M.ls.length = H.length := by rw [x1.sees.lays, List.length_map]
  rw [← hll] at hls
  clear hll
  rw [hps] at c7
  rw [hal] at c6
  rw [hls] at c11
  unfold Mod.err at hE
  rw [if_neg (by simpa using e1), if_neg (by simpa using e2), if_neg (by rintro (h1 | h1); exact h1 e3; exact h1 e4)] at hE
  rw [e1] at hck
  have hn := fun w (hw : Below w1.heap.size w1 w) => new_some w _ M.al pA pc (by have := x1.sees.al.new hw; rw [hal] at this; exact this) x1.sees.alb ha.1 ha.2
  rw [e2] at hn
  have HC := Lib.hid (And.intro hck (And.intro hn (And.intro hb1 (And.intro hE (And.intro x1 (And.intro e1 (And.intro e3 e4)))))))
  have HW := Lib.hid hw1
  clear hck hn hb1 hE hw1 x1 x e1 e2
  refine (callsIn_wide (n := 9)).1 ?_
  refine callsIn_of_wp_marks Try.func44 rfl trivial ?_ rfl
  simp only [Try.ntmps44, List.size_toArray, List.length_cons, List.length_nil, Nat.reduceAdd, Nat.reduceSub, Array.replicate_succ, Array.replicate_zero, List.push_toArray, List.append_toArray, List.nil_append, List.cons_append]
  refine wpIn_wide.2 ?_
  go_upto_region 1 with fail
  rw [← HW.out]
  go_step3
  go_upto_region 7 with (first | (go_at_call 58; (with_reducible refine Calls.mono HC.out.1 ?_); rintro e w2 ⟨rfl, hb2⟩; have c62 := (hb2.cell (block_lt_of_cell c6)).trans c6; have c72 := (hb2.cell (block_lt_of_cell c7)).trans c7; have HB := Lib.hid hb2; clear hb2) | (go_at_call 91; (with_reducible refine Calls.mono (HC.out.2.1 w2 HB.out) ?_); rintro e w3 ⟨pv, rfl, hb3, hq⟩; have HB3 := Lib.hid (And.intro (below_chain HB.out hb3) hq); clear hb3 hq))
  obtain ⟨q, qA, qc, rfl, hqg, hqc⟩ := HB3.out.2 trivial
  obtain ⟨w4, hw4⟩ : ∃ w4, w4 = w3.alloc (.cells #[.int .i64 0] 35) := ⟨_, rfl⟩
  have hb4 : Below w1.heap.size w1 w4 := by rw [hw4]; exact HB3.out.1.alloc HB3.out.1.size _
  have hs4 : w4.heap.size = w3.heap.size + 1 := by rw [hw4]; simp
  have hbox : Boxed w4 w3.heap.size 35 (.int .i64 0) := by rw [hw4]; exact Boxed.new w3 _ _
  have c04 := (hb4.cell (block_lt_of_cell c0)).trans c0
  have c34 := (hb4.cell (block_lt_of_cell c3)).trans c3
  have c114 := (hb4.cell (block_lt_of_cell c11)).trans c11
  have hq4 : w4.cell? ⟨q, 0, none⟩ = some (.slice qA M.al.length qc) := by rw [hw4, World.cell?_alloc_lt _ _ _ (block_lt_of_cell hqc)]; exact hqc
  rw [← hw4]
  have hcm := fun nq => (many_coder (w4.drewN nq) q qA M.al.length qc hq4).mono (fun e w' (hh : e = .returned (.int .i64 (M.al.length : Int)) ∧ w4.drewN nq = w') => (⟨hh.1, 0, hh.2.symm⟩ : e = .returned (.int .i64 (M.al.length : Int)) ∧ ∃ n, w' = (w4.drewN nq).drewN n))
  have hb34 : Below w3.heap.size w3 w4 := by rw [hw4]; exact (Below.refl _ _).alloc (Nat.le_refl _) _
  have HM := Lib.hid (And.intro hcm (And.intro hb4 (And.intro hs4 (And.intro hbox hb34))))
  have hes : w3.heap.size ≥ w1.heap.size := HB3.out.1.size
  have HES := Lib.hid hes
  clear hcm hb34 hb4 hw4 hs4 hbox hqc hq4 hes c62 c72
  go_quiet (exact Calls.quiet_of (HM.out.1 _))
  obtain ⟨w5, hw5⟩ : ∃ w5, w5 = w4.drewN nq := ⟨_, rfl⟩
  rw [← hw5]
  have hb5 : Below w1.heap.size w1 w5 := by rw [hw5]; exact below_drewN' HM.out.2.1 nq
  have hs5 : w5.heap.size = w3.heap.size + 1 := by rw [hw5]; exact HM.out.2.2.1
  have hbox5 : Boxed w5 w3.heap.size 35 (.int .i64 0) := by rw [hw5]; exact HM.out.2.2.2.1
  have hb35 : Below w3.heap.size w3 w5 := by rw [hw5]; exact below_drewN' HM.out.2.2.2.2 nq
  have d0 := (hb5.cell (block_lt_of_cell c0)).trans c0
  have d1 := (hb5.cell (block_lt_of_cell c1)).trans c1
  have d2 := (hb5.cell (block_lt_of_cell c2)).trans c2
  have d3 := (hb5.cell (block_lt_of_cell c3)).trans c3
  have d4 := (hb5.cell (block_lt_of_cell c4)).trans c4
  have d5 := (hb5.cell (block_lt_of_cell c5)).trans c5
  obtain ⟨g0, g1, g2, g3, g4, g5⟩ := bounds_of HC.out.2.2.2.2.2.1
  have hblk := fun w => blocks_any M.c w g3.1 g3.2
  have H5 := Lib.hid (And.intro hb5 (And.intro hs5 (And.intro hbox5 (And.intro hb35 (And.intro g3 hblk)))))
  clear hw5 hb5 hs5 hbox5 hb35 c0 c1 c2 c3 c4 c5 c6 c7 c11 c04 c34 c114 g0 g1 g2 g3 g4 g5 hblk
  go_wp2_with (go_at_call 59; (with_reducible refine Calls.mono (H5.out.2.2.2.2.2 w5) ?_); rintro e w6 ⟨q6, rfl, hsq, hb6⟩; have H6 := Lib.hid (And.intro hsq hb6); clear hsq hb6)
  go_step3
  go_wp2_with (go_at_call 59; (with_reducible refine Calls.mono (H5.out.2.2.2.2.2 w5) ?_); rintro e w6 ⟨q6, rfl, hsq, hb6⟩; have H6 := Lib.hid (And.intro hsq hb6); clear hsq hb6)
  obtain ⟨v6, hv6, hr6⟩ := H6.out.1.out.ex
  have hlen : 0 < (blks M.c).length := by rw [blks_length]; omega
  obtain ⟨g, cap, rfl, hbg, hgl⟩ := hr6.form hlen
  have hlen2 : (blks M.c).length ≤ 1000 := by rw [blks_length]; have := H5.out.2.2.2.2.1; omega
  have hz5 := H5.out.2.1
  have hz6 := H6.out.2.size
  have hbox6 : Boxed w6 w3.heap.size 35 (.int .i64 0) := (H6.out.2.block _ (by omega)).trans H5.out.2.2.1
  have hb36 : Below w3.heap.size w3 w6 := H5.out.2.2.2.1.trans (H6.out.2.mono (by omega))
  have x3 := HC.out.2.2.2.2.1.new HB3.out.1
  have hparts : ∀ y ∈ blks M.c, fixB M y = y := fun y hy => fixB_of (part_of HC.out.2.2.2.2.2.2.2 (by have := H5.out.2.2.2.2.1; omega) y hy)
  have hcong : firstErr (pErr M) (blks M.c) = firstErr M.partErr (blks M.c) := firstErr_congr fun y hy => by unfold pErr; rw [hparts y hy]
  have hW3 : Below W.heap.size W w3 := below_chain HC.out.2.2.1 HB3.out.1
  have hWs : W.heap.size < w3.heap.size := Nat.lt_of_lt_of_le (Array.getElem?_eq_some_iff.1 HC.out.2.2.2.2.1.blk).1 HES.out
  have HX := Lib.hid (And.intro x3 (And.intro hcong (And.intro hW3 hWs)))
  clear x3 hcong hW3 hWs d0 d1 d2 d3 d4 d5
  refine (wpIn_wide (n := 9)).1 ?_
  refine wpIn_rangeFunc_ownH rfl (by omega) (gf := 120) (lb := #[.pointer (some ⟨q6, 0, none⟩)]) rfl trivial (enters_of Try.func120 (by kernel_rfl) rfl)
    (values_fix (fixB M) 8 (by omega) w6 _ q6 (· = g) (blks M.c) hparts hlen2 (by intro h; rw [h] at hlen; simp at hlen) H6.out.1.out (by
      intro v' hv' g' hg'
      have := boxed_inj hv6 hv'
      subst this
      simpa [Value.ownBlock] using hg'.symm) (by intro k hk; omega)) KeepS.trans (keepS_b (by intro k hk; omega)) (Below.refl _ _) (fun _ => rfl)
    (fun pre Wr => ((Boxed Wr w3.heap.size 35 (.int .i64 0) ∧ Below w3.heap.size w3 Wr) ∧ w6.heap.size ≤ Wr.heap.size) ∧ firstErr (pErr M) pre = 0)
    (fun cc pre Wr => cc = .exit 1 ∧ (∃ ini last, pre = ini ++ [last] ∧ firstErr (pErr M) ini = 0 ∧ pErr M last ≠ 0 ∧ Boxed Wr w3.heap.size 35 (.int .i64 (pErr M last))) ∧ Below w3.heap.size w3 Wr)
    (OwnFrom.and (OwnFrom.and (OwnFrom.and (Own.from (boxed_own _ _ _) _) (ownFrom_below (Nat.le_refl _) (by omega))) (fun s A B row hs hg hr => Nat.le_trans hs hg.size)) (fun s A B row hs hg hr => hs))
    (fun cc s A B row hs hg hr => by
      obtain ⟨h1, ⟨ini, last, h2, h3, h4, h5⟩, h6⟩ := hs
      exact ⟨h1, ⟨ini, last, h2, h3, h4, (Own.from (boxed_own w3.heap.size 35 (fun _ : Unit => .int .i64 (pErr M last))) w6.heap.size) () A B row h5 hg hr⟩, (ownFrom_below (Nat.le_refl _) (by omega)) () A B row h6 hg hr⟩)
    ⟨⟨⟨hbox6, hb36⟩, Nat.le_refl _⟩, rfl⟩
    (fun x a' Wr => ∃ Bx, w3.heap.size ≠ Bx ∧ g ≠ Bx ∧ w6.heap.size ≤ Bx ∧ Wr.heap[Bx]? = some (.cells (fixB M x).cells.toArray 131 (0, 0)) ∧ a' = { tmps := #[.agg (modC M h).toArray, .pointer (some ⟨W.heap.size, 0, none⟩), .int .i64 0, .int .i64 0, .pointer (some ⟨q, 0, none⟩), .pointer (some ⟨w3.heap.size, 0, none⟩), .pointer (some ⟨Bx, 0, none⟩), .pointer (some ⟨W.heap.size, 0, none⟩), .agg #[.int .i64 M.c.v, .int .i64 M.c.d, .int .i64 M.c.h, .int .i64 M.c.l, .int .i64 M.c.c, .int .i64 M.c.x], .int .i64 0, .int .i64 0, .bool false, undef, .tuple #[.pointer (some ⟨q, 0, none⟩), .int .i64 0], .pointer (some ⟨W.heap.size, 6, none⟩), .slice aA M.al.length ac, .pointer (some ⟨W.heap.size, 7, none⟩), .slice pA 0 pc, .tuple #[.pointer (some ⟨q, 0, none⟩), .int .i64 0], .pointer (some ⟨q, 0, none⟩), .int .i64 0, .bool false, .int .i64 0, .bool false, undef, .bool false, .pointer (some ⟨q, 0, none⟩), .int .i64 M.c.v, .pointer (some ⟨W.heap.size, 0, none⟩), .pointer (some ⟨W.heap.size, 0, none⟩), .int .i64 M.c.v, .bool false, .bool false, .pointer (some ⟨W.heap.size, 11, none⟩), .slice lA M.ls.length lc, .int .i64 M.c.l, .pointer (some ⟨W.heap.size, 0, none⟩), .pointer (some ⟨W.heap.size, 3, none⟩), .int .i64 M.c.l, .bool false, .bool false, .pointer (some ⟨W.heap.size, 0, none⟩), .agg #[.int .i64 M.c.v, .int .i64 M.c.d, .int .i64 M.c.h, .int .i64 M.c.l, .int .i64 M.c.c, .int .i64 M.c.x], .func (.func 120) #[] #[.pointer (some ⟨q6, 0, none⟩)], (fixB M x).val, undef, undef, undef, undef, undef], defers := [] })
    ?hax ?assign ?body ?done ?stop
  case hax =>
    rintro x a' _ X Y row ⟨Bx, h1, h2, h2', h3, h4⟩ hg hrow
    refine ⟨Bx, h1, h2, h2', (hg.block Bx (Array.getElem?_eq_some_iff.1 h3).1 (fun e => ?_)).trans h3, h4⟩
    obtain ⟨_, o, ho, hc⟩ := hrow Bx e.symm
    rw [h3] at ho; cases ho; cases hc
  case assign =>
    rintro l pre x Wr K ⟨⟨⟨hi, hB⟩, hle⟩, hfe⟩ hK
    simp only [Blk.val]
    have hlt := hi.lt
    gi_wp2
    refine hK _ _ ((KeepsOthers.alloc _ _).from _) ((KeepS.refl _ Wr).alloc (by intro k hk; omega) _) ⟨⟨⟨hi.alloc _, hB.alloc hB.size _⟩, by simp; omega⟩, hfe⟩ ⟨Wr.heap.size, by omega, by omega, by omega, heap_alloc_new Wr _, rfl⟩
  case body =>
    rintro l pre x a' Wr hl ⟨r, hrl⟩ ⟨⟨⟨hi, hB⟩, hle⟩, hfe⟩ ⟨Bx, hx1, hx2, hx2', hx3, rfl⟩ hlt
    have hlW := hi.lt
    have HC1 := Lib.hid (check_part Wr _ M h H (HX.out.1.new hB) (fixB M x) (fixB_part M x))
    obtain ⟨pe, hpe⟩ : ∃ pe, pe = M.partErr (fixB M x) := ⟨_, rfl⟩
    have hpe' : pErr M x = pe := hpe.symm
    rw [← hpe] at HC1
    have hBx : Bx < Wr.heap.size := (Array.getElem?_eq_some_iff.1 hx3).1
    obtain ⟨bx, hbx⟩ : ∃ bx, bx = fixB M x := ⟨_, rfl⟩
    rw [← hbx] at hx3 HC1
    rw [← hbx]
    have k0 : Wr.cell? ⟨Bx, 0, none⟩ = some (.int .i64 bx.kind) := by rw [cell_of_row _ _ 0 _ _ _ hx3]; rfl
    have k1 : Wr.cell? ⟨Bx, 1, none⟩ = some (.int .i64 bx.layer) := by rw [cell_of_row _ _ 1 _ _ _ hx3]; rfl
    have k2 : Wr.cell? ⟨Bx, 2, none⟩ = some (.int .i64 bx.rows) := by rw [cell_of_row _ _ 2 _ _ _ hx3]; rfl
    have k3 : Wr.cell? ⟨Bx, 3, none⟩ = some (.int .i64 bx.cols) := by rw [cell_of_row _ _ 3 _ _ _ hx3]; rfl
    have k4 : Wr.cell? ⟨Bx, 4, none⟩ = some (.bool bx.vec) := by rw [cell_of_row _ _ 4 _ _ _ hx3]; rfl
    have HF := Lib.hid (And.intro hi (And.intro hB (And.intro hle (And.intro hfe (And.intro hpe' hlW)))))
    clear hi hB hle hfe hpe hpe' hx3 hbx
    unfold Blk.val at HC1 ⊢
    simp only at HC1 ⊢
    gi_wp2_with fail
    refine ⟨trivial, ?_⟩
    with_reducible refine CallsIn.mono (callsIn_round.2 HC1.out) ?_
    rintro e W1 ⟨rfl, hb1⟩
    have hi1 : Boxed W1 w3.heap.size 35 (.int .i64 0) := (hb1.block _ HF.out.2.2.2.2.2).trans HF.out.1
    have hc1 := hi1.cell
    have hf1 := hi1.frozen
    have hz1 := hb1.size
    have hgW : ∀ k, k = g → k < Wr.heap.size := by intro k hk; have := HF.out.2.2.1; omega
    have hko : KeepsOthers Wr W1 := ⟨hb1.size, fun k o hk _ => (hb1.block k (Array.getElem?_eq_some_iff.1 hk).1).trans hk⟩
    have HG := Lib.hid (And.intro hko (And.intro (KeepS.below hb1 hgW) (And.intro (hi1.set (.int .i64 pe)) (And.intro (below_chain HF.out.2.1 hb1) hz1))))
    clear hko hgW hi1 hb1 k0 k1 k2 k3 k4
    by_cases hp0 : pe = 0
    · subst hp0
      gi_wp2
      refine ⟨(HG.out.1.trans (KeepsOthers.setCell _ _ _)).from _, HG.out.2.1.setCell 0 (by omega) _, ⟨⟨HG.out.2.2.1, HG.out.2.2.2.1.setCell (p := ⟨w3.heap.size, 0, none⟩) (by simp) _⟩, ?_⟩, ?_⟩
      · have := HF.out.2.2.1
        have := HG.out.2.2.2.2
        simp [World.setCell]
        omega
      · rw [firstErr_snoc _ _ _ HF.out.2.2.2.1]; exact HF.out.2.2.2.2.1
    · have hpn : (pe == 0) = false := by simpa using hp0
      have HP := Lib.hid hp0
      clear hp0
      gi_wp2
      refine ⟨(HG.out.1.trans (KeepsOthers.setCell _ _ _)).from _, rfl, ⟨pre, x, rfl, HF.out.2.2.2.1, by rw [HF.out.2.2.2.2.1]; exact HP.out, by rw [HF.out.2.2.2.2.1]; exact HG.out.2.2.1⟩, HG.out.2.2.2.1.setCell (p := ⟨w3.heap.size, 0, none⟩) (by simp) _⟩
  case done =>
    rintro D ys W' hD rfl ⟨⟨⟨hi, hB⟩, hle⟩, hfe⟩ hK
    have hcn := hi.cell
    have hfn := hi.frozen
    have hE0 : E = 0 := by rw [HC.out.2.2.2.1, ← HX.out.2.1]; exact hfe
    have HB' := Lib.hid (And.intro hB (And.intro hle (And.intro hfe hE0)))
    clear hB hle hfe hE0
    go_wp2_with fail
    try (rw [Exit.noGoto_ret])
    refine ⟨by simp, .inl ⟨_, _, rfl, run_takeDeferred hK, ?_⟩⟩
    have hs3 := HB'.out.1.size
    refine ⟨.int .i64 0, by simp [results, Try.f44, go_sem], by rw [HB'.out.2.2.2], (below_chain HX.out.2.2.1 HB'.out.1).trans (belowK_b (w := W) (Nat.le_refl _) W' D _ _ (by have := HX.out.2.2.2; omega) hK rfl rfl)⟩
  case stop =>
    rintro D cc pre W' hD hS ⟨rfl, ⟨ini, last, rfl, h3, h4, hb⟩, hB⟩ hK
    obtain ⟨tl, htl⟩ := hS
    have hE0 : E = pErr M last := by
      rw [HC.out.2.2.2.1, ← HX.out.2.1, ← htl, List.append_assoc]
      exact firstErr_prefix _ _ _ _ h3 h4
    have hcn := hb.cell
    have hfn := hb.frozen
    have HB' := Lib.hid (And.intro hB hE0)
    clear hB hE0 htl h3 h4
    refine wpIn_wide.2 ?_
    go_wp2_with fail
    try (rw [Exit.noGoto_ret])
    refine ⟨by simp, .inl ⟨_, _, rfl, run_takeDeferred hK, ?_⟩⟩
    have hs3 := HB'.out.1.size
    refine ⟨.int .i64 (pErr M last), by simp [results, Try.f44, go_sem], by rw [HB'.out.2], (below_chain HX.out.2.2.1 HB'.out.1).trans (belowK_b (w := W) (Nat.le_refl _) W' D _ _ (by have := HX.out.2.2.2; omega) hK rfl rfl)⟩
theorem wchk_any (W : World) (M : Mod) (h : ModH) (H : List (Lay × LayH)) (x : ModSees W M h H) (ha : 1 ≤ M.al.length ∧ M.al.length ≤ 512) :
    Calls Try.prog 44 #[.agg (modC M h).toArray] W fun e w' => e = .returned (.int .i64 M.err) ∧ Below W.heap.size W w' := by
  by_cases e1 : M.c.chk = 0
  · by_cases e2 : bpeErr0 M.al = 0
    · by_cases e3 : (M.al.length : Int) = M.c.v
      · by_cases e4 : (M.ls.length : Int) = M.c.l
        · exact wchk_full W M h H x ha e1 e2 e3 e4
        · exact wchk_early W M h H x ha (.inr (.inr (.inr e4)))
      · exact wchk_early W M h H x ha (.inr (.inr (.inl e3)))
    · exact wchk_early W M h H x ha (.inr (.inl e2))
  · exact wchk_early W M h H x ha (.inl e1)
end Go.Proofs.Ytfhaebaegkpkhaa.Cfg
