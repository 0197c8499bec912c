/- steps.Row: what it answers of a right model. -/
import Derived.Test.YtfhaebaegkpkhaaRowP
set_option linter.unusedVariables false
set_option linter.unusedSimpArgs false
namespace Go.Proofs.Ytfhaebaegkpkhaa.Fil
open Go.RowKit OwnS Byt QTail Cfg Ten Bpe
attribute [local go_sem ↓] Kit.execOp_call_slot
attribute [local go_sem] Kit.callSlot_func
/-- All cells of a model's variable. -/
theorem rcells {w : World} {B : Nat} {M : Mod} {h : ModH} {H : List (Lay × LayH)} (x : WAt w B M h H) :
    w.cell? ⟨B, 0, none⟩ = some (.int .i64 M.c.v) ∧ w.cell? ⟨B, 1, none⟩ = some (.int .i64 M.c.d) ∧ w.cell? ⟨B, 2, none⟩ = some (.int .i64 M.c.h) ∧ w.cell? ⟨B, 3, none⟩ = some (.int .i64 M.c.l) ∧ w.cell? ⟨B, 4, none⟩ = some (.int .i64 M.c.c) ∧ w.cell? ⟨B, 5, none⟩ = some (.int .i64 M.c.x) ∧
    w.cell? ⟨B, 6, none⟩ = some h.al ∧ w.cell? ⟨B, 7, none⟩ = some h.ps ∧ w.cell? ⟨B, 8, none⟩ = some (.int .i64 M.em.rows) ∧ w.cell? ⟨B, 9, none⟩ = some (.int .i64 M.em.cols) ∧ w.cell? ⟨B, 10, none⟩ = some h.em ∧ w.cell? ⟨B, 11, none⟩ = some h.ls ∧ w.cell? ⟨B, 12, none⟩ = some h.norm ∧
    w.cell? ⟨B, 13, none⟩ = some (.int .i64 M.out.rows) ∧ w.cell? ⟨B, 14, none⟩ = some (.int .i64 M.out.cols) ∧ w.cell? ⟨B, 15, none⟩ = some h.out := by
  refine ⟨?_, ?_, ?_, ?_, ?_, ?_, ?_, ?_, ?_, ?_, ?_, ?_, ?_, ?_, ?_, ?_⟩ <;> (rw [cell_of_row _ _ _ _ _ _ x.blk]; rfl)
/-- The model's handles have their shapes. -/
theorem shapes {w : World} {M : Mod} {h : ModH} {H : List (Lay × LayH)} (x : ModSees w M h H) : ∃ a1 c1 a2 c2 a3 c3 a4 c4 a5 c5 a6 c6, h = ⟨.slice a1 M.al.length c1, .slice a2 0 c2, .slice a3 M.em.l.length c3, .slice a4 M.ls.length c4, .slice a5 M.norm.length c5, .slice a6 M.out.l.length c6⟩ := by
  obtain ⟨a1, c1, e1, -, -⟩ := x.al.form
  obtain ⟨a2, c2, e2⟩ := x.ps
  obtain ⟨a3, c3, e3, -, -⟩ := Sees.form x.em
  obtain ⟨a4, c4, e4, -, -⟩ := x.ls.form
  obtain ⟨a5, c5, e5, -, -⟩ := Sees.form x.norm
  obtain ⟨a6, c6, e6, -, -⟩ := Sees.form x.out
  refine ⟨a1, c1, a2, c2, a3, c3, a4, c4, a5, c5, a6, c6, ?_⟩
  obtain ⟨h1, h2, h3, h4, h5, h6⟩ := h
  simp only at e1 e2 e3 e4 e5 e6
  subst e1 e2 e3 e4 e5 e6
  rw [x.lays, List.length_map]
set_option maxRecDepth 100000 in
set_option maxHeartbeats 4000000 in
theorem srow_none (W : World) (M : Mod) (h : ModH) (H : List (Lay × LayH)) (x : ModSees W M h H) (p : P3) (hrow : -9223372036854775808 ≤ p.row ∧ p.row ≤ 9223372036854775807) (hp : (M.c.place p).2 ≠ 0) :
    Calls Try.prog 21 #[.agg (modC M h).toArray, .agg #[.int .i64 p.kind, .int .i64 p.layer, .int .i64 p.row]] W fun e w' => e = .returned (.tuple #[.slice none 0 0, .int .i64 10]) ∧ Below W.heap.size W w' := by
  obtain ⟨w1, hw1⟩ : ∃ w1, w1 = (W.alloc (.cells (modC M h).toArray 31)).alloc (.cells #[.int .i64 p.kind, .int .i64 p.layer, .int .i64 p.row] 33) := ⟨_, rfl⟩
  obtain ⟨x0, hb0⟩ := wboxed W M h H x
  have hb1 : Below W.heap.size W w1 := by rw [hw1]; exact hb0.alloc hb0.size _
  have x1 : WAt w1 W.heap.size M h H := by rw [hw1]; exact x0.new ((Below.refl _ _).alloc (Nat.le_refl _) _)
  have hblk : w1.heap[W.heap.size + 1]? = some (.cells [Value.int .i64 p.kind, .int .i64 p.layer, .int .i64 p.row].toArray 33 (0, 0)) := by
    rw [hw1]
    have := heap_alloc_new (W.alloc (.cells (modC M h).toArray 31)) (.cells #[.int .i64 p.kind, .int .i64 p.layer, .int .i64 p.row] 33)
    simpa using this
  have q0 : w1.cell? ⟨W.heap.size + 1, 0, none⟩ = some (.int .i64 p.kind) := by rw [cell_of_row _ _ 0 _ _ _ hblk]; rfl
  have q1 : w1.cell? ⟨W.heap.size + 1, 1, none⟩ = some (.int .i64 p.layer) := by rw [cell_of_row _ _ 1 _ _ _ hblk]; rfl
  have q2 : w1.cell? ⟨W.heap.size + 1, 2, none⟩ = some (.int .i64 p.row) := by rw [cell_of_row _ _ 2 _ _ _ hblk]; rfl
  obtain ⟨c0, c1, c2, c3, c4, c5, -⟩ := rcells x1
  have hpl := place_any M.c p w1 hrow
  obtain ⟨e2, he2⟩ : ∃ e2, e2 = (M.c.place p).2 := ⟨_, rfl⟩
  rw [← he2] at hp hpl
  have hp' : (e2 == 0) = false := by simpa using hp
  have HC := Lib.hid (And.intro hpl hb1)
  have HW := Lib.hid hw1
  clear hpl hb1 hw1 x0 hb0 x1 hblk x he2
  go_enter Try.func21, Try.ntmps21
  go_upto_region 1 with fail
  rw [← HW.out]
  go_wp2_with (go_at_call 14; (with_reducible refine Calls.mono HC.out.1 ?_); rintro e w2 ⟨rfl, hb2⟩; have HB := Lib.hid hb2; clear hb2)
  go_ret2
  exact ⟨rfl, below_chain HC.out.2 HB.out⟩
/-- A row answered: a list of one's own. -/
def RowPost (W : World) (l : List Int) (e : Ending) (w' : World) : Prop := ∃ A z, e = .returned (.tuple #[.slice A l.length z, .int .i64 0]) ∧ Owns w' W.heap.size 1 (.slice A l.length z) l.length (intsV l) ∧ Below W.heap.size W w'
theorem vec_len {l : List Int} (h : vecErr l = 0) : 1 ≤ l.length ∧ l.length ≤ 512 := by
  unfold vecErr at h
  split at h
  · cases h
  · omega
/-- The two variables that Row begins with. -/
structure RPre (W w1 : World) (M : Mod) (h : ModH) (H : List (Lay × LayH)) (kind layer row : Int) : Prop where
  below : Below W.heap.size W w1
  wat : WAt w1 W.heap.size M h H
  q0 : w1.cell? ⟨W.heap.size + 1, 0, none⟩ = some (.int .i64 kind)
  q1 : w1.cell? ⟨W.heap.size + 1, 1, none⟩ = some (.int .i64 layer)
  q2 : w1.cell? ⟨W.heap.size + 1, 2, none⟩ = some (.int .i64 row)
theorem rpre (W : World) (M : Mod) (h : ModH) (H : List (Lay × LayH)) (x : ModSees W M h H) (kind layer row : Int) : RPre W ((W.alloc (.cells (modC M h).toArray 31)).alloc (.cells #[.int .i64 kind, .int .i64 layer, .int .i64 row] 33)) M h H kind layer row := by
  obtain ⟨x0, hb0⟩ := wboxed W M h H x
  have hblk := heap_alloc_new (W.alloc (.cells (modC M h).toArray 31)) (.cells [Value.int .i64 kind, .int .i64 layer, .int .i64 row].toArray 33)
  rw [show (W.alloc (.cells (modC M h).toArray 31)).heap.size = W.heap.size + 1 by simp] at hblk
  exact ⟨hb0.alloc hb0.size _, x0.new ((Below.refl _ _).alloc (Nat.le_refl _) _), by rw [cell_of_row _ _ 0 _ _ _ hblk]; rfl, by rw [cell_of_row _ _ 1 _ _ _ hblk]; rfl, by rw [cell_of_row _ _ 2 _ _ _ hblk]; rfl⟩
theorem RPre.new {W w1 w2 : World} {M : Mod} {h : ModH} {H : List (Lay × LayH)} {kind layer row : Int} (x : RPre W w1 M h H kind layer row) (hb : Below w1.heap.size w1 w2) : RPre W w2 M h H kind layer row :=
  ⟨below_chain x.below hb, x.wat.new hb, (hb.cell (block_lt_of_cell x.q0)).trans x.q0, (hb.cell (block_lt_of_cell x.q1)).trans x.q1, (hb.cell (block_lt_of_cell x.q2)).trans x.q2⟩
set_option maxRecDepth 100000 in
set_option maxHeartbeats 4000000 in
theorem srow_norm (W : World) (M : Mod) (h : ModH) (H : List (Lay × LayH)) (x : ModSees W M h H) (ha : 1 ≤ M.al.length ∧ M.al.length ≤ 512) (he : M.err = 0) (layer row : Int) (hrow : -9223372036854775808 ≤ row ∧ row ≤ 9223372036854775807) (hp : (M.c.place ⟨11, layer, row⟩).2 = 0) :
    Calls Try.prog 21 #[.agg (modC M h).toArray, .agg #[.int .i64 11, .int .i64 layer, .int .i64 row]] W (RowPost W M.norm) := by
  obtain ⟨w1, hw1⟩ : ∃ w1, w1 = (W.alloc (.cells (modC M h).toArray 31)).alloc (.cells #[.int .i64 11, .int .i64 layer, .int .i64 row] 33) := ⟨_, rfl⟩
  have hpre := rpre W M h H x 11 layer row
  rw [← hw1] at hpre
  obtain ⟨v1, hv1⟩ : ∃ v1, v1 = (M.c.place ⟨11, layer, row⟩).1 := ⟨_, rfl⟩
  have hpl := place_any M.c ⟨11, layer, row⟩ w1 hrow
  rw [hp, ← hv1] at hpl
  have hlen : M.norm.length ≤ 1000000 := by
    rcases part_cases he hp with ⟨-, -, hv⟩ | ⟨hk, -⟩
    · have := (vec_len hv).2
      simp [Mod.vec] at this
      omega
    · unfold isMat at hk; simp at hk
  have hck := fun w (hw : Below w1.heap.size w1 w) => wchk_any w M h H (hpre.wat.sees.new hw) ha
  rw [he] at hck
  obtain ⟨a1, z1, a2, z2, a3, z3, a4, z4, a5, z5, a6, z6, rfl⟩ := shapes x
  obtain ⟨k1, hk1⟩ : ∃ k, k = M.al.length := ⟨_, rfl⟩
  obtain ⟨k3, hk3⟩ : ∃ k, k = M.em.l.length := ⟨_, rfl⟩
  obtain ⟨k4, hk4⟩ : ∃ k, k = M.ls.length := ⟨_, rfl⟩
  obtain ⟨k6, hk6⟩ : ∃ k, k = M.out.l.length := ⟨_, rfl⟩
  have hcl := fun w (hw : Below w1.heap.size w1 w) => clone_ints w _ M.norm (hpre.wat.sees.new hw).norm hlen
  unfold IntsPost at hcl
  simp only at hcl
  unfold RowPost
  obtain ⟨k5, hk5⟩ : ∃ k, k = M.norm.length := ⟨_, rfl⟩
  unfold modC at hck hw1 ⊢
  simp only at hck hw1 ⊢
  rw [← hk1, ← hk3, ← hk4, ← hk5, ← hk6] at hck hw1 ⊢
  rw [← hk5] at hcl
  have hcells := fun w (hw : Below w1.heap.size w1 w) => rcells (hpre.wat.new hw)
  simp only [← hk1, ← hk3, ← hk4, ← hk5, ← hk6] at hcells
  obtain ⟨c0, c1, c2, c3, c4, c5, -⟩ := hcells w1 (Below.refl _ _)
  have q0 := hpre.q0
  have q1 := hpre.q1
  have q2 := hpre.q2
  have HC := Lib.hid (And.intro hpl (And.intro hck (And.intro hcl (And.intro hcells hpre))))
  have HW := Lib.hid hw1
  clear hpl hck hcl hcells hpre hw1 x hp hv1 hk1 hk3 hk4 hk5 hk6 he ha hlen
  go_enter Try.func21, Try.ntmps21
  go_upto_region 1 with fail
  rw [← HW.out]
  go_wp2_with (first | (go_at_call 14; (with_reducible refine Calls.mono HC.out.1 ?_); rintro e w2 ⟨rfl, hb2⟩; obtain ⟨d0, d1, d2, d3, d4, d5, d6, d7, d8, d9, d10, d11, d12, d13, d14, d15⟩ := HC.out.2.2.2.1 w2 hb2; have HB := Lib.hid hb2; clear hb2) | (go_at_call 44; (with_reducible refine Calls.mono (HC.out.2.1 w2 HB.out) ?_); rintro e w3 ⟨rfl, hb3⟩; obtain ⟨e0, e1, e2, e3, e4, e5, e6, e7, e8, e9, e10, e11, e12, e13, e14, e15⟩ := HC.out.2.2.2.1 w3 (below_chain HB.out hb3); have r0 := (HC.out.2.2.2.2.new (below_chain HB.out hb3)).q0; have HB3 := Lib.hid (below_chain HB.out hb3); clear hb3 d0 d1 d2 d3 d4 d5 d6 d7 d8 d9 d10 d11 d12 d13 d14 d15) | (go_at_call 71; (with_reducible refine Calls.mono (HC.out.2.2.1 w3 HB3.out) ?_); rintro e w4 ⟨A4, y4, rfl, ho4, hb4⟩; have H4 := Lib.hid (And.intro ho4 hb4); clear ho4 hb4))
  go_ret2
  have hb3 := below_chain HC.out.2.2.2.2.below HB3.out
  exact ⟨A4, y4, rfl, H4.out.1.mono hb3.size, below_chain hb3 H4.out.2⟩
end Go.Proofs.Ytfhaebaegkpkhaa.Fil
