/- steps.Row: the matrices outside of the layers. Printed by gensrow.py. -/
import Derived.Test.YtfhaebaegkpkhaaSRow
set_option linter.unusedVariables false
set_option linter.unusedSimpArgs false
namespace Go.Proofs.Ytfhaebaegkpkhaa.Fil
open Go.RowKit OwnS Byt QTail Cfg Ten Bpe
attribute [local go_sem ↓] Kit.execOp_call_slot
attribute [local go_sem] Kit.callSlot_func
theorem mat_nat {m : Mat} (h : matErr m = 0) : ∃ r c : Nat, m.rows = (r : Int) ∧ m.cols = (c : Int) ∧ matErr ⟨r, c, m.l⟩ = 0 := by
  obtain ⟨rows, cols, l⟩ := m
  have h0 := h
  unfold matErr at h
  simp only at h
  split at h
  · cases h
  · rename_i hn
    have h1 : ¬ (rows < 1) := fun x => hn (.inl x)
    have h3 : ¬ (cols < 1) := fun x => hn (.inr (.inr (.inl x)))
    obtain ⟨r, rfl⟩ := Int.eq_ofNat_of_zero_le (show 0 ≤ rows by omega)
    obtain ⟨c, rfl⟩ := Int.eq_ofNat_of_zero_le (show 0 ≤ cols by omega)
    exact ⟨r, c, rfl, rfl, h0⟩
set_option maxRecDepth 100000 in
set_option maxHeartbeats 4000000 in
theorem srow_em (W : World) (M : Mod) (h : ModH) (H : List (Lay × LayH)) (x : ModSees W M h H) (ha : 1 ≤ M.al.length ∧ M.al.length ≤ 512) (he : M.err = 0) (layer row : Int) (hrow : -9223372036854775808 ≤ row ∧ row ≤ 9223372036854775807) (hp : (M.c.place ⟨1, layer, row⟩).2 = 0) :
    Calls Try.prog 21 #[.agg (modC M h).toArray, .agg #[.int .i64 1, .int .i64 layer, .int .i64 row]] W (RowPost W (rowOf M.em.cols.toNat row.toNat M.em.l)) := by
  obtain ⟨hme, hr0, hr1⟩ : matErr M.em = 0 ∧ 0 ≤ row ∧ row < M.em.rows := by
    rcases part_cases he hp with ⟨hk, -⟩ | ⟨-, h1, h2, h3⟩
    · simp at hk
    · exact ⟨h1, h2, h3⟩
  obtain ⟨r, c, hr, hc, hmm⟩ := mat_nat hme
  obtain ⟨k, rfl⟩ := Int.eq_ofNat_of_zero_le hr0
  have hkr : k < r := by omega
  have hct : M.em.cols.toNat = c := by rw [hc]; rfl
  rw [hct, Int.toNat_natCast]
  obtain ⟨w1, hw1⟩ : ∃ w1, w1 = (W.alloc (.cells (modC M h).toArray 31)).alloc (.cells #[.int .i64 1, .int .i64 layer, .int .i64 (k : Int)] 33) := ⟨_, rfl⟩
  have hpre := rpre W M h H x 1 layer (k : Int)
  rw [← hw1] at hpre
  obtain ⟨v1, hv1⟩ : ∃ v1, v1 = (M.c.place ⟨1, layer, (k : Int)⟩).1 := ⟨_, rfl⟩
  have hpl := place_any M.c ⟨1, layer, (k : Int)⟩ w1 hrow
  rw [hp, ← hv1] at hpl
  have hck := fun w (hw : Below w1.heap.size w1 w) => wchk_any w M h H (hpre.wat.sees.new hw) ha
  rw [he] at hck
  obtain ⟨a1, z1, a2, z2, a3, z3, a4, z4, a5, z5, a6, z6, rfl⟩ := shapes x
  obtain ⟨k1, hk1⟩ : ∃ k, k = M.al.length := ⟨_, rfl⟩
  obtain ⟨k3, hk3⟩ : ∃ k, k = M.em.l.length := ⟨_, rfl⟩
  obtain ⟨k4, hk4⟩ : ∃ k, k = M.ls.length := ⟨_, rfl⟩
  obtain ⟨k5, hk5⟩ : ∃ k, k = M.norm.length := ⟨_, rfl⟩
  obtain ⟨k6, hk6⟩ : ∃ k, k = M.out.l.length := ⟨_, rfl⟩
  have hro := fun w (hw : Below w1.heap.size w1 w) => Row_some w _ r c k M.em.l (hpre.wat.sees.new hw).em hmm hkr
  unfold RowPost
  unfold modC at hck hw1 ⊢
  simp only at hck hw1 hro ⊢
  rw [← hk1, ← hk3, ← hk4, ← hk5, ← hk6, hr, hc] at hck hw1 ⊢
  rw [← hk3] at hro
  have hcells := fun w (hw : Below w1.heap.size w1 w) => rcells (hpre.wat.new hw)
  simp only [← hk1, ← hk3, ← hk4, ← hk5, ← hk6, hr, hc] at hcells
  obtain ⟨c0, c1, c2, c3, c4, c5, -⟩ := hcells w1 (Below.refl _ _)
  have q0 := hpre.q0
  have q1 := hpre.q1
  have q2 := hpre.q2
  have HC := Lib.hid (And.intro hpl (And.intro hck (And.intro hro (And.intro hcells hpre))))
  have HW := Lib.hid hw1
  clear hpl hck hro hcells hpre hw1 x hp hv1 hk1 hk3 hk4 hk5 hk6 he ha hme hr0 hr1 hr hc hmm hct hkr
  go_enter Try.func21, Try.ntmps21
  go_upto_region 1 with fail
  rw [← HW.out]
  go_wp2_with (first | (go_at_call 14; (with_reducible refine Calls.mono HC.out.1 ?_); rintro e w2 ⟨rfl, hb2⟩; obtain ⟨d0, d1, d2, d3, d4, d5, d6, d7, d8, d9, d10, d11, d12, d13, d14, d15⟩ := HC.out.2.2.2.1 w2 hb2; have HB := Lib.hid hb2; clear hb2) | (go_at_call 44; (with_reducible refine Calls.mono (HC.out.2.1 w2 HB.out) ?_); rintro e w3 ⟨rfl, hb3⟩; obtain ⟨e0, e1, e2, e3, e4, e5, e6, e7, e8, e9, e10, e11, e12, e13, e14, e15⟩ := HC.out.2.2.2.1 w3 (below_chain HB.out hb3); have r0 := (HC.out.2.2.2.2.new (below_chain HB.out hb3)).q0; have r2 := (HC.out.2.2.2.2.new (below_chain HB.out hb3)).q2; have HB3 := Lib.hid (below_chain HB.out hb3); clear hb3 d0 d1 d2 d3 d4 d5 d6 d7 d8 d9 d10 d11 d12 d13 d14 d15) | (go_at_call 22; (with_reducible refine Calls.mono (HC.out.2.2.1 w3 HB3.out) ?_); rintro e w4 ⟨A4, y4, rfl, ho4, hl4, hb4⟩; have H4 := Lib.hid (And.intro ho4 (And.intro hl4 hb4)); clear ho4 hl4 hb4))
  go_ret2
  have hb3 := below_chain HC.out.2.2.2.2.below HB3.out
  rw [H4.out.2.1]
  exact ⟨A4, y4, rfl, H4.out.1.mono hb3.size, below_chain hb3 H4.out.2.2⟩
set_option maxRecDepth 100000 in
set_option maxHeartbeats 4000000 in
theorem srow_out (W : World) (M : Mod) (h : ModH) (H : List (Lay × LayH)) (x : ModSees W M h H) (ha : 1 ≤ M.al.length ∧ M.al.length ≤ 512) (he : M.err = 0) (layer row : Int) (hrow : -9223372036854775808 ≤ row ∧ row ≤ 9223372036854775807) (hp : (M.c.place ⟨12, layer, row⟩).2 = 0) :
    Calls Try.prog 21 #[.agg (modC M h).toArray, .agg #[.int .i64 12, .int .i64 layer, .int .i64 row]] W (RowPost W (rowOf M.out.cols.toNat row.toNat M.out.l)) := by
  obtain ⟨hme, hr0, hr1⟩ : matErr M.out = 0 ∧ 0 ≤ row ∧ row < M.out.rows := by
    rcases part_cases he hp with ⟨hk, -⟩ | ⟨-, h1, h2, h3⟩
    · simp at hk
    · exact ⟨h1, h2, h3⟩
  obtain ⟨r, c, hr, hc, hmm⟩ := mat_nat hme
  obtain ⟨k, rfl⟩ := Int.eq_ofNat_of_zero_le hr0
  have hkr : k < r := by omega
  have hct : M.out.cols.toNat = c := by rw [hc]; rfl
  rw [hct, Int.toNat_natCast]
  obtain ⟨w1, hw1⟩ : ∃ w1, w1 = (W.alloc (.cells (modC M h).toArray 31)).alloc (.cells #[.int .i64 12, .int .i64 layer, .int .i64 (k : Int)] 33) := ⟨_, rfl⟩
  have hpre := rpre W M h H x 12 layer (k : Int)
  rw [← hw1] at hpre
  obtain ⟨v1, hv1⟩ : ∃ v1, v1 = (M.c.place ⟨12, layer, (k : Int)⟩).1 := ⟨_, rfl⟩
  have hpl := place_any M.c ⟨12, layer, (k : Int)⟩ w1 hrow
  rw [hp, ← hv1] at hpl
  have hck := fun w (hw : Below w1.heap.size w1 w) => wchk_any w M h H (hpre.wat.sees.new hw) ha
  rw [he] at hck
  obtain ⟨a1, z1, a2, z2, a3, z3, a4, z4, a5, z5, a6, z6, rfl⟩ := shapes x
  obtain ⟨k1, hk1⟩ : ∃ k, k = M.al.length := ⟨_, rfl⟩
  obtain ⟨k3, hk3⟩ : ∃ k, k = M.em.l.length := ⟨_, rfl⟩
  obtain ⟨k4, hk4⟩ : ∃ k, k = M.ls.length := ⟨_, rfl⟩
  obtain ⟨k5, hk5⟩ : ∃ k, k = M.norm.length := ⟨_, rfl⟩
  obtain ⟨k6, hk6⟩ : ∃ k, k = M.out.l.length := ⟨_, rfl⟩
  have hro := fun w (hw : Below w1.heap.size w1 w) => Row_some w _ r c k M.out.l (hpre.wat.sees.new hw).out hmm hkr
  unfold RowPost
  unfold modC at hck hw1 ⊢
  simp only at hck hw1 hro ⊢
  rw [← hk1, ← hk3, ← hk4, ← hk5, ← hk6, hr, hc] at hck hw1 ⊢
  rw [← hk6] at hro
  have hcells := fun w (hw : Below w1.heap.size w1 w) => rcells (hpre.wat.new hw)
  simp only [← hk1, ← hk3, ← hk4, ← hk5, ← hk6, hr, hc] at hcells
  obtain ⟨c0, c1, c2, c3, c4, c5, -⟩ := hcells w1 (Below.refl _ _)
  have q0 := hpre.q0
  have q1 := hpre.q1
  have q2 := hpre.q2
  have HC := Lib.hid (And.intro hpl (And.intro hck (And.intro hro (And.intro hcells hpre))))
  have HW := Lib.hid hw1
  clear hpl hck hro hcells hpre hw1 x hp hv1 hk1 hk3 hk4 hk5 hk6 he ha hme hr0 hr1 hr hc hmm hct hkr
  go_enter Try.func21, Try.ntmps21
  go_upto_region 1 with fail
  rw [← HW.out]
  go_wp2_with (first | (go_at_call 14; (with_reducible refine Calls.mono HC.out.1 ?_); rintro e w2 ⟨rfl, hb2⟩; obtain ⟨d0, d1, d2, d3, d4, d5, d6, d7, d8, d9, d10, d11, d12, d13, d14, d15⟩ := HC.out.2.2.2.1 w2 hb2; have HB := Lib.hid hb2; clear hb2) | (go_at_call 44; (with_reducible refine Calls.mono (HC.out.2.1 w2 HB.out) ?_); rintro e w3 ⟨rfl, hb3⟩; obtain ⟨e0, e1, e2, e3, e4, e5, e6, e7, e8, e9, e10, e11, e12, e13, e14, e15⟩ := HC.out.2.2.2.1 w3 (below_chain HB.out hb3); have r0 := (HC.out.2.2.2.2.new (below_chain HB.out hb3)).q0; have r2 := (HC.out.2.2.2.2.new (below_chain HB.out hb3)).q2; have HB3 := Lib.hid (below_chain HB.out hb3); clear hb3 d0 d1 d2 d3 d4 d5 d6 d7 d8 d9 d10 d11 d12 d13 d14 d15) | (go_at_call 22; (with_reducible refine Calls.mono (HC.out.2.2.1 w3 HB3.out) ?_); rintro e w4 ⟨A4, y4, rfl, ho4, hl4, hb4⟩; have H4 := Lib.hid (And.intro ho4 (And.intro hl4 hb4)); clear ho4 hl4 hb4))
  go_ret2
  have hb3 := below_chain HC.out.2.2.2.2.below HB3.out
  rw [H4.out.2.1]
  exact ⟨A4, y4, rfl, H4.out.1.mono hb3.size, below_chain hb3 H4.out.2.2⟩
end Go.Proofs.Ytfhaebaegkpkhaa.Fil
