/- What is wrong with a model (without pairs). -/
import Derived.Test.YtfhaebaegkpkhaaChkP
import Derived.Test.YtfhaebaegkpkhaaBpe0
import Derived.Test.YtfhaebaegkpkhaaMany0
set_option linter.unusedVariables false
set_option linter.unusedSimpArgs false
namespace Go.Proofs.Ytfhaebaegkpkhaa.Cfg
open Go.RowKit OwnS Byt QTail RevL Ten Bpe Go.Shelf
attribute [local go_sem ↓] Kit.execOp_call_slot
attribute [local go_sem] Kit.callSlot_func
theorem many_coder (W : World) (q : Nat) (A : Option Addr) (n c : Nat) (h : W.cell? ⟨q, 0, none⟩ = some (.slice A n c)) : Calls Try.prog 92 #[.pointer (some ⟨q, 0, none⟩)] W fun e w' => e = .returned (.int .i64 (n : Int)) ∧ W = w' := by
  go_enter Try.func92, Try.ntmps92
  go_wp2_with fail
  try (rw [Exit.noGoto_ret])
  go_ret
  exact ⟨rfl, rfl⟩
/-- What is wrong with a model. -/
def Mod.err (M : Mod) : Int :=
  if M.c.chk ≠ 0 then M.c.chk else if bpeErr0 M.al ≠ 0 then bpeErr0 M.al
  else if (M.al.length : Int) ≠ M.c.v ∨ (M.ls.length : Int) ≠ M.c.l then 13 else firstErr M.partErr (blks M.c)
theorem wcells {w : World} {B : Nat} {M : Mod} {h : ModH} {H : List (Lay × LayH)} (x : WAt w B M h H) :
    w.cell? ⟨B, 0, none⟩ = some (.int .i64 M.c.v) ∧ w.cell? ⟨B, 1, none⟩ = some (.int .i64 M.c.d) ∧ w.cell? ⟨B, 2, none⟩ = some (.int .i64 M.c.h) ∧ w.cell? ⟨B, 3, none⟩ = some (.int .i64 M.c.l) ∧ w.cell? ⟨B, 4, none⟩ = some (.int .i64 M.c.c) ∧ w.cell? ⟨B, 5, none⟩ = some (.int .i64 M.c.x) ∧
    w.cell? ⟨B, 6, none⟩ = some h.al ∧ w.cell? ⟨B, 7, none⟩ = some h.ps ∧ w.cell? ⟨B, 11, none⟩ = some h.ls := by
  refine ⟨?_, ?_, ?_, ?_, ?_, ?_, ?_, ?_, ?_⟩ <;> (rw [cell_of_row _ _ _ _ _ _ x.blk]; rfl)
/-- The world that the model's own variable lies in. -/
theorem wboxed (W : World) (M : Mod) (h : ModH) (H : List (Lay × LayH)) (x : ModSees W M h H) : WAt (W.alloc (.cells (modC M h).toArray 31)) W.heap.size M h H ∧ Below W.heap.size W (W.alloc (.cells (modC M h).toArray 31)) :=
  ⟨⟨heap_alloc_new _ _, x.new ((Below.refl _ _).alloc (Nat.le_refl _) _)⟩, (Below.refl _ _).alloc (Nat.le_refl _) _⟩
set_option maxRecDepth 100000 in
set_option maxHeartbeats 2000000 in
theorem wchk_early (W : World) (M : Mod) (h : ModH) (H : List (Lay × LayH)) (x : ModSees W M h H) (ha : 1 ≤ M.al.length ∧ M.al.length ≤ 512) (he : M.c.chk ≠ 0 ∨ bpeErr0 M.al ≠ 0 ∨ (M.al.length : Int) ≠ M.c.v ∨ (M.ls.length : Int) ≠ M.c.l) :
    Calls Try.prog 44 #[.agg (modC M h).toArray] W fun e w' => e = .returned (.int .i64 M.err) ∧ Below W.heap.size W w' := by
  obtain ⟨w1, hw1⟩ : ∃ w1, w1 = W.alloc (.cells (modC M h).toArray 31) := ⟨_, rfl⟩
  obtain ⟨x1, hb1⟩ := wboxed W M h H x
  rw [← hw1] at x1 hb1
  obtain ⟨c0, c1, c2, c3, c4, c5, c6, c7, c11⟩ := wcells x1
  obtain ⟨E, hE⟩ : ∃ E, E = M.err := ⟨_, rfl⟩
  rw [← hE]
  have hck := check_any M.c w1
  obtain ⟨pA, pc, hps⟩ := x1.sees.ps
  obtain ⟨aA, ac, hal, -, -⟩ := x1.sees.al.form
  obtain ⟨lA, lc, hls, -, -⟩ := x1.sees.ls.form
  have hll : M.ls.length = H.length := by rw [x1.sees.lays, List.length_map]
  rw [← hll] at hls
  rw [hps] at c7
  rw [hal] at c6
  rw [hls] at c11
  unfold Mod.err at hE
  by_cases e1 : M.c.chk = 0
  · rw [if_neg (by simpa using e1)] at hE
    rw [e1] at hck
    by_cases e2 : bpeErr0 M.al = 0
    · rw [if_neg (by simpa using e2)] at hE
      have e3 : (M.al.length : Int) ≠ M.c.v ∨ (M.ls.length : Int) ≠ M.c.l := by rcases he with h1 | h1 | h1; exact absurd e1 h1; exact absurd e2 h1; exact h1
      rw [if_pos e3] at hE
      have hn := fun w (hw : Below w1.heap.size w1 w) => new_some w _ M.al pA pc (by have := x1.sees.al.new hw; rw [hal] at this; exact this) x1.sees.alb ha.1 ha.2
      rw [e2] at hn
      have HC := Lib.hid (And.intro hck (And.intro hn (And.intro hb1 (And.intro hE x1))))
      have HW := Lib.hid hw1
      clear hck hn hb1 hE hw1 x1 x he e1 e2
      go_enter Try.func44, Try.ntmps44
      go_upto_region 1 with fail
      rw [← HW.out]
      go_step3
      go_upto_region 7 with (first | (go_at_call 58; (with_reducible refine Calls.mono HC.out.1 ?_); rintro e w2 ⟨rfl, hb2⟩; have c62 := (hb2.cell (block_lt_of_cell c6)).trans c6; have c72 := (hb2.cell (block_lt_of_cell c7)).trans c7; have HB := Lib.hid hb2; clear hb2) | (go_at_call 91; (with_reducible refine Calls.mono (HC.out.2.1 w2 HB.out) ?_); rintro e w3 ⟨pv, rfl, hb3, hq⟩; have HB3 := Lib.hid (And.intro (below_chain HB.out hb3) hq); clear hb3 hq))
      obtain ⟨q, qA, qc, rfl, hqg, hqc⟩ := HB3.out.2 trivial
      obtain ⟨w4, hw4⟩ : ∃ w4, w4 = w3.alloc (.cells #[.int .i64 0] 35) := ⟨_, rfl⟩
      have hb4 : Below w1.heap.size w1 w4 := by rw [hw4]; exact HB3.out.1.alloc HB3.out.1.size _
      have c04 := (hb4.cell (block_lt_of_cell c0)).trans c0
      have c34 := (hb4.cell (block_lt_of_cell c3)).trans c3
      have c114 := (hb4.cell (block_lt_of_cell c11)).trans c11
      have hq4 : w4.cell? ⟨q, 0, none⟩ = some (.slice qA M.al.length qc) := by rw [hw4, World.cell?_alloc_lt _ _ _ (block_lt_of_cell hqc)]; exact hqc
      rw [← hw4]
      have hcm := fun nq => (many_coder (w4.drewN nq) q qA M.al.length qc hq4).mono (fun e w' (hh : e = .returned (.int .i64 (M.al.length : Int)) ∧ w4.drewN nq = w') => (⟨hh.1, 0, hh.2.symm⟩ : e = .returned (.int .i64 (M.al.length : Int)) ∧ ∃ n, w' = (w4.drewN nq).drewN n))
      have HM := Lib.hid (And.intro hcm (below_chain HC.out.2.2.1 hb4))
      clear hcm hb4 hw4 c0 c1 c2 c3 c4 c5 c6 c7 c11 c62 c72 hqc hq4
      by_cases hv : (M.al.length : Int) = M.c.v
      · have hl : ¬ (M.ls.length : Int) = M.c.l := by rcases e3 with h1 | h1; exact absurd hv h1; exact h1
        go_quiet (exact Calls.quiet_of (HM.out.1 _))
        go_wp2_with fail
        try (rw [Exit.noGoto_ret])
        go_ret
        exact ⟨by rw [HC.out.2.2.2.1]; rfl, below_drewN' HM.out.2 nq⟩
      · go_quiet (exact Calls.quiet_of (HM.out.1 _))
        go_wp2_with fail
        try (rw [Exit.noGoto_ret])
        go_ret
        exact ⟨by rw [HC.out.2.2.2.1]; rfl, below_drewN' HM.out.2 nq⟩
    · have hn := fun w (hw : Below w1.heap.size w1 w) => new_some w _ M.al pA pc (by have := x1.sees.al.new hw; rw [hal] at this; exact this) x1.sees.alb ha.1 ha.2
      rw [if_pos e2] at hE
      obtain ⟨k, hk⟩ : ∃ k, k = bpeErr0 M.al := ⟨_, rfl⟩
      rw [← hk] at hn e2 hE
      have e2' : (k == 0) = false := by simpa using e2
      have HC := Lib.hid (And.intro hck (And.intro hn (And.intro hb1 hE)))
      have HW := Lib.hid hw1
      clear hck hn hb1 hE hw1 x1 x he e1 hk
      go_enter Try.func44, Try.ntmps44
      go_upto_region 1 with fail
      rw [← HW.out]
      go_step3
      go_wp2_with (first | (go_at_call 58; (with_reducible refine Calls.mono HC.out.1 ?_); rintro e w2 ⟨rfl, hb2⟩; have c62 := (hb2.cell (block_lt_of_cell c6)).trans c6; have c72 := (hb2.cell (block_lt_of_cell c7)).trans c7; have HB := Lib.hid hb2; clear hb2) | (go_at_call 91; (with_reducible refine Calls.mono (HC.out.2.1 w2 HB.out) ?_); rintro e w3 ⟨pv, rfl, hb3, hq⟩; have HB3 := Lib.hid (And.intro (below_chain HB.out hb3) hq); clear hb3 hq))
      try (rw [Exit.noGoto_ret])
      go_ret
      exact ⟨by rw [HC.out.2.2.2]; rfl, (below_chain HC.out.2.2.1 HB3.out.1).alloc (below_chain HC.out.2.2.1 HB3.out.1).size _⟩
  · rw [if_pos (by simpa using e1)] at hE
    have e1' : (M.c.chk == 0) = false := by simpa using e1
    have HC := Lib.hid (And.intro hck (And.intro hb1 hE))
    have HW := Lib.hid hw1
    clear hck hb1 hE hw1 x1 x he
    go_enter Try.func44, Try.ntmps44
    go_upto_region 1 with fail
    rw [← HW.out]
    go_step3
    go_wp2_with (go_at_call 58; (with_reducible refine Calls.mono HC.out.1 ?_); rintro e w2 ⟨rfl, hb2⟩; have c62 := (hb2.cell (block_lt_of_cell c6)).trans c6; have c72 := (hb2.cell (block_lt_of_cell c7)).trans c7; have HB := Lib.hid hb2; clear hb2)
    try (rw [Exit.noGoto_ret])
    go_ret
    exact ⟨by rw [HC.out.2.2]; rfl, below_chain HC.out.2.1 HB.out⟩
end Go.Proofs.Ytfhaebaegkpkhaa.Cfg
