/- steps.Row: the vectors of a layer. Printed by gensrow3.py. -/
import Derived.Test.YtfhaebaegkpkhaaSRow
set_option linter.unusedVariables false
set_option linter.unusedSimpArgs false
namespace Go.Proofs.Ytfhaebaegkpkhaa.Fil
open Go.RowKit OwnS Byt QTail Cfg Ten Bpe
attribute [local go_sem ↓] Kit.execOp_call_slot
attribute [local go_sem] Kit.callSlot_func
set_option maxRecDepth 100000 in
set_option maxHeartbeats 4000000 in
theorem srow_n1 (W : World) (M : Mod) (h : ModH) (H : List (Lay × LayH)) (x : ModSees W M h H) (ha : 1 ≤ M.al.length ∧ M.al.length ≤ 512) (he : M.err = 0) (layer row : Int) (hrow : -9223372036854775808 ≤ row ∧ row ≤ 9223372036854775807) (hp : (M.c.place ⟨2, layer, row⟩).2 = 0) :
    Calls Try.prog 21 #[.agg (modC M h).toArray, .agg #[.int .i64 2, .int .i64 layer, .int .i64 row]] W (RowPost W (M.lay layer).n1) := by
  obtain ⟨⟨hl0, hl1⟩, hv⟩ : (0 ≤ layer ∧ layer < M.ls.length) ∧ vecErr (M.lay layer).n1 = 0 := by
    rcases part_cases he hp with ⟨-, hk, hv⟩ | ⟨hk, -⟩
    · exact ⟨hk (by simp), by simpa [Mod.vec] using hv⟩
    · unfold isMat at hk; simp at hk
  obtain ⟨i, rfl⟩ := Int.eq_ofNat_of_zero_le hl0
  have hlen : (M.lay (i : Int)).n1.length ≤ 1000000 := by have := (vec_len hv).2; omega
  have hi' : i < M.ls.length := by omega
  obtain ⟨w1, hw1⟩ : ∃ w1, w1 = (W.alloc (.cells (modC M h).toArray 31)).alloc (.cells #[.int .i64 2, .int .i64 (i : Int), .int .i64 row] 33) := ⟨_, rfl⟩
  have hpre := rpre W M h H x 2 (i : Int) row
  rw [← hw1] at hpre
  obtain ⟨v1, hv1⟩ : ∃ v1, v1 = (M.c.place ⟨2, (i : Int), row⟩).1 := ⟨_, rfl⟩
  have hpl := place_any M.c ⟨2, (i : Int), row⟩ w1 hrow
  rw [hp, ← hv1] at hpl
  have hck := fun w (hw : Below w1.heap.size w1 w) => wchk_any w M h H (hpre.wat.sees.new hw) ha
  rw [he] at hck
  obtain ⟨p, g, o, cap, hH, hM, hls, hr, hsee, hg⟩ := hpre.wat.sees.layer hi'
  rw [hM] at hlen ⊢
  obtain ⟨An, cn0, en⟩ := hsee.n1.form
  have hsn := hsee.n1
  have cn : w1.cell? ⟨g, o + i * 23, none⟩ = some p.2.n1 := hr 0 _ rfl
  rw [en] at cn hsn
  obtain ⟨a1, z1, a2, z2, a3, z3, a4, z4, a5, z5, a6, z6, rfl⟩ := shapes x
  simp only at hls
  injection hls with hls1 hls2 hls3
  subst hls1 hls3
  clear hls2
  have hcl := fun w (hw : Below w1.heap.size w1 w) => clone_ints w _ p.1.n1 (hsn.new hw) hlen
  have hlt : (i : Int) < (M.ls.length : Int) := by omega
  obtain ⟨k1, hk1⟩ : ∃ k, k = M.al.length := ⟨_, rfl⟩
  obtain ⟨k3, hk3⟩ : ∃ k, k = M.em.l.length := ⟨_, rfl⟩
  obtain ⟨k4, hk4⟩ : ∃ k, k = M.ls.length := ⟨_, rfl⟩
  obtain ⟨k5, hk5⟩ : ∃ k, k = M.norm.length := ⟨_, rfl⟩
  obtain ⟨k6, hk6⟩ : ∃ k, k = M.out.l.length := ⟨_, rfl⟩
  obtain ⟨k7, hk7⟩ : ∃ k, k = p.1.n1.length := ⟨_, rfl⟩
  unfold IntsPost at hcl
  unfold RowPost
  unfold modC at hck hw1 ⊢
  simp only at hck hw1 ⊢
  rw [← hk1, ← hk3, ← hk4, ← hk5, ← hk6] at hck hw1 ⊢
  rw [← hk7] at hcl cn ⊢
  rw [← hk4] at hlt
  have hcells := fun w (hw : Below w1.heap.size w1 w) => rcells (hpre.wat.new hw)
  simp only [← hk1, ← hk3, ← hk4, ← hk5, ← hk6] at hcells
  obtain ⟨c0, c1, c2, c3, c4, c5, -⟩ := hcells w1 (Below.refl _ _)
  have q0 := hpre.q0
  have q1 := hpre.q1
  have q2 := hpre.q2
  have HC := Lib.hid (And.intro hpl (And.intro hck (And.intro hcl (And.intro hcells (And.intro hpre cn)))))
  have HW := Lib.hid hw1
  clear hpl hck hcl hcells hpre hw1 x hp hv1 hk1 hk3 hk4 hk5 hk6 hk7 he ha hlen hv hH hM hr hsee hsn en cn hi' hl0 hl1
  go_enter Try.func21, Try.ntmps21
  go_upto_region 1 with fail
  rw [← HW.out]
  go_wp2_with (first | (go_at_call 14; (with_reducible refine Calls.mono HC.out.1 ?_); rintro e w2 ⟨rfl, hb2⟩; obtain ⟨d0, d1, d2, d3, d4, d5, d6, d7, d8, d9, d10, d11, d12, d13, d14, d15⟩ := HC.out.2.2.2.1 w2 hb2; have HB := Lib.hid hb2; clear hb2) | (go_at_call 44; (with_reducible refine Calls.mono (HC.out.2.1 w2 HB.out) ?_); rintro e w3 ⟨rfl, hb3⟩; obtain ⟨e0, e1, e2, e3, e4, e5, e6, e7, e8, e9, e10, e11, e12, e13, e14, e15⟩ := HC.out.2.2.2.1 w3 (below_chain HB.out hb3); have r0 := (HC.out.2.2.2.2.1.new (below_chain HB.out hb3)).q0; have r1 := (HC.out.2.2.2.2.1.new (below_chain HB.out hb3)).q1; have cn3 := ((below_chain HB.out hb3).cell (block_lt_of_cell HC.out.2.2.2.2.2)).trans HC.out.2.2.2.2.2; have HB3 := Lib.hid (below_chain HB.out hb3); clear hb3 d0 d1 d2 d3 d4 d5 d6 d7 d8 d9 d10 d11 d12 d13 d14 d15) | (go_at_call 71; (with_reducible refine Calls.mono (HC.out.2.2.1 w3 HB3.out) ?_); rintro e w4 ⟨A4, y4, rfl, ho4, hb4⟩; have H4 := Lib.hid (And.intro ho4 hb4); clear ho4 hb4))
  go_ret2
  have hb3 := below_chain HC.out.2.2.2.2.1.below HB3.out
  exact ⟨A4, y4, rfl, H4.out.1.mono hb3.size, below_chain hb3 H4.out.2⟩
set_option maxRecDepth 100000 in
set_option maxHeartbeats 4000000 in
theorem srow_n2 (W : World) (M : Mod) (h : ModH) (H : List (Lay × LayH)) (x : ModSees W M h H) (ha : 1 ≤ M.al.length ∧ M.al.length ≤ 512) (he : M.err = 0) (layer row : Int) (hrow : -9223372036854775808 ≤ row ∧ row ≤ 9223372036854775807) (hp : (M.c.place ⟨7, layer, row⟩).2 = 0) :
    Calls Try.prog 21 #[.agg (modC M h).toArray, .agg #[.int .i64 7, .int .i64 layer, .int .i64 row]] W (RowPost W (M.lay layer).n2) := by
  obtain ⟨⟨hl0, hl1⟩, hv⟩ : (0 ≤ layer ∧ layer < M.ls.length) ∧ vecErr (M.lay layer).n2 = 0 := by
    rcases part_cases he hp with ⟨-, hk, hv⟩ | ⟨hk, -⟩
    · exact ⟨hk (by simp), by simpa [Mod.vec] using hv⟩
    · unfold isMat at hk; simp at hk
  obtain ⟨i, rfl⟩ := Int.eq_ofNat_of_zero_le hl0
  have hlen : (M.lay (i : Int)).n2.length ≤ 1000000 := by have := (vec_len hv).2; omega
  have hi' : i < M.ls.length := by omega
  obtain ⟨w1, hw1⟩ : ∃ w1, w1 = (W.alloc (.cells (modC M h).toArray 31)).alloc (.cells #[.int .i64 7, .int .i64 (i : Int), .int .i64 row] 33) := ⟨_, rfl⟩
  have hpre := rpre W M h H x 7 (i : Int) row
  rw [← hw1] at hpre
  obtain ⟨v1, hv1⟩ : ∃ v1, v1 = (M.c.place ⟨7, (i : Int), row⟩).1 := ⟨_, rfl⟩
  have hpl := place_any M.c ⟨7, (i : Int), row⟩ w1 hrow
  rw [hp, ← hv1] at hpl
  have hck := fun w (hw : Below w1.heap.size w1 w) => wchk_any w M h H (hpre.wat.sees.new hw) ha
  rw [he] at hck
  obtain ⟨p, g, o, cap, hH, hM, hls, hr, hsee, hg⟩ := hpre.wat.sees.layer hi'
  rw [hM] at hlen ⊢
  obtain ⟨An, cn0, en⟩ := hsee.n2.form
  have hsn := hsee.n2
  have cn : w1.cell? ⟨g, o + i * 23 + 13, none⟩ = some p.2.n2 := hr 13 _ rfl
  rw [en] at cn hsn
  obtain ⟨a1, z1, a2, z2, a3, z3, a4, z4, a5, z5, a6, z6, rfl⟩ := shapes x
  simp only at hls
  injection hls with hls1 hls2 hls3
  subst hls1 hls3
  clear hls2
  have hcl := fun w (hw : Below w1.heap.size w1 w) => clone_ints w _ p.1.n2 (hsn.new hw) hlen
  have hlt : (i : Int) < (M.ls.length : Int) := by omega
  obtain ⟨k1, hk1⟩ : ∃ k, k = M.al.length := ⟨_, rfl⟩
  obtain ⟨k3, hk3⟩ : ∃ k, k = M.em.l.length := ⟨_, rfl⟩
  obtain ⟨k4, hk4⟩ : ∃ k, k = M.ls.length := ⟨_, rfl⟩
  obtain ⟨k5, hk5⟩ : ∃ k, k = M.norm.length := ⟨_, rfl⟩
  obtain ⟨k6, hk6⟩ : ∃ k, k = M.out.l.length := ⟨_, rfl⟩
  obtain ⟨k7, hk7⟩ : ∃ k, k = p.1.n2.length := ⟨_, rfl⟩
  unfold IntsPost at hcl
  unfold RowPost
  unfold modC at hck hw1 ⊢
  simp only at hck hw1 ⊢
  rw [← hk1, ← hk3, ← hk4, ← hk5, ← hk6] at hck hw1 ⊢
  rw [← hk7] at hcl cn ⊢
  rw [← hk4] at hlt
  have hcells := fun w (hw : Below w1.heap.size w1 w) => rcells (hpre.wat.new hw)
  simp only [← hk1, ← hk3, ← hk4, ← hk5, ← hk6] at hcells
  obtain ⟨c0, c1, c2, c3, c4, c5, -⟩ := hcells w1 (Below.refl _ _)
  have q0 := hpre.q0
  have q1 := hpre.q1
  have q2 := hpre.q2
  have HC := Lib.hid (And.intro hpl (And.intro hck (And.intro hcl (And.intro hcells (And.intro hpre cn)))))
  have HW := Lib.hid hw1
  clear hpl hck hcl hcells hpre hw1 x hp hv1 hk1 hk3 hk4 hk5 hk6 hk7 he ha hlen hv hH hM hr hsee hsn en cn hi' hl0 hl1
  go_enter Try.func21, Try.ntmps21
  go_upto_region 1 with fail
  rw [← HW.out]
  go_wp2_with (first | (go_at_call 14; (with_reducible refine Calls.mono HC.out.1 ?_); rintro e w2 ⟨rfl, hb2⟩; obtain ⟨d0, d1, d2, d3, d4, d5, d6, d7, d8, d9, d10, d11, d12, d13, d14, d15⟩ := HC.out.2.2.2.1 w2 hb2; have HB := Lib.hid hb2; clear hb2) | (go_at_call 44; (with_reducible refine Calls.mono (HC.out.2.1 w2 HB.out) ?_); rintro e w3 ⟨rfl, hb3⟩; obtain ⟨e0, e1, e2, e3, e4, e5, e6, e7, e8, e9, e10, e11, e12, e13, e14, e15⟩ := HC.out.2.2.2.1 w3 (below_chain HB.out hb3); have r0 := (HC.out.2.2.2.2.1.new (below_chain HB.out hb3)).q0; have r1 := (HC.out.2.2.2.2.1.new (below_chain HB.out hb3)).q1; have cn3 := ((below_chain HB.out hb3).cell (block_lt_of_cell HC.out.2.2.2.2.2)).trans HC.out.2.2.2.2.2; have HB3 := Lib.hid (below_chain HB.out hb3); clear hb3 d0 d1 d2 d3 d4 d5 d6 d7 d8 d9 d10 d11 d12 d13 d14 d15) | (go_at_call 71; (with_reducible refine Calls.mono (HC.out.2.2.1 w3 HB3.out) ?_); rintro e w4 ⟨A4, y4, rfl, ho4, hb4⟩; have H4 := Lib.hid (And.intro ho4 hb4); clear ho4 hb4))
  go_ret2
  have hb3 := below_chain HC.out.2.2.2.2.1.below HB3.out
  exact ⟨A4, y4, rfl, H4.out.1.mono hb3.size, below_chain hb3 H4.out.2⟩
end Go.Proofs.Ytfhaebaegkpkhaa.Fil
