/- What is wrong with a part of a model. -/
import Derived.Test.YtfhaebaegkpkhaaMatAt
set_option linter.unusedVariables false
set_option linter.unusedSimpArgs false
namespace Go.Proofs.Ytfhaebaegkpkhaa.Cfg
open Go.RowKit OwnS Byt QTail RevL Ten
attribute [local go_sem ↓] Kit.execOp_call_slot
attribute [local go_sem] Kit.callSlot_func
set_option maxRecDepth 100000 in
theorem matrix_top (W : World) (B : Nat) (M : Mod) (h : ModH) (H : List (Lay × LayH)) (x : WAt W B M h H) (kind layer rows cols : Int) (vec : Bool) (hk : kind = 1 ∨ kind = 12) :
    Calls Try.prog 67 #[.pointer (some ⟨B, 0, none⟩), .agg #[.int .i64 kind, .int .i64 layer, .int .i64 rows, .int .i64 cols, .bool vec]] W (MatPost W (M.mat kind layer)) := by
  obtain ⟨w1, hw1⟩ : ∃ w1, w1 = W.alloc (.cells #[.int .i64 kind, .int .i64 layer, .int .i64 rows, .int .i64 cols, .bool vec] 131) := ⟨_, rfl⟩
  have hb1 : Below W.heap.size W w1 := by rw [hw1]; exact (Below.refl _ _).alloc (Nat.le_refl _) _
  have x1 := x.new hb1
  have k0 : w1.cell? ⟨W.heap.size, 0, none⟩ = some (.int .i64 kind) := by rw [hw1, cell_of_row _ _ 0 _ _ _ (heap_alloc_new W _)]; rfl
  have hr := rangeAt_whole x1.blk
  rcases hk with rfl | rfl
  · have e : M.mat 1 layer = M.em := by unfold Mod.mat; rw [if_pos rfl]
    rw [e]
    obtain ⟨A, c, en⟩ := x1.sees.em.form
    have hm : w1.rangeAt B 8 (matC M.em h.em) := by
      have := rangeAt_take (k := 3) (rangeAt_drop (k := 8) hr)
      rw [Nat.zero_add] at this
      exact this
    have hs := x1.sees.em
    rw [en] at hm hs
    have HS := Lib.hid (And.intro hs (And.intro hb1 hm))
    have HW1 := Lib.hid hw1
    clear hs hm hr x1 x hb1 hw1 en e
    go_enter Try.func67, Try.ntmps67
    go_upto_region 1 with fail
    rw [← HW1.out]
    go_wp2_with fail
    go_ret
    exact ⟨B, 8, A, c, rfl, HS.out.2.2, HS.out.1, HS.out.2.1⟩
  · have e : M.mat 12 layer = M.out := by unfold Mod.mat; rw [if_neg (by decide), if_pos rfl]
    rw [e]
    obtain ⟨A, c, en⟩ := x1.sees.out.form
    have hm : w1.rangeAt B 13 (matC M.out h.out) := by
      have := rangeAt_take (k := 3) (rangeAt_drop (k := 13) hr)
      rw [Nat.zero_add] at this
      exact this
    have hs := x1.sees.out
    rw [en] at hm hs
    have HS := Lib.hid (And.intro hs (And.intro hb1 hm))
    have HW1 := Lib.hid hw1
    clear hs hm hr x1 x hb1 hw1 en e
    go_enter Try.func67, Try.ntmps67
    go_upto_region 1 with fail
    rw [← HW1.out]
    go_wp2_with fail
    go_ret
    exact ⟨B, 13, A, c, rfl, HS.out.2.2, HS.out.1, HS.out.2.1⟩
/-- A part that a model may have. -/
def Part_ (M : Mod) (b : Blk) : Prop :=
  (b.vec = true ∧ (b.kind = 2 ∨ b.kind = 7 ∨ b.kind = 11) ∧ (b.kind ≠ 11 → 0 ≤ b.layer ∧ b.layer < M.ls.length)) ∨
  (b.vec = false ∧ (b.kind = 1 ∨ b.kind = 12 ∨ ((∃ j ∈ insIdx, b.kind = insKind j) ∧ 0 ≤ b.layer ∧ b.layer < M.ls.length)))
theorem matrix_at (W : World) (B : Nat) (M : Mod) (h : ModH) (H : List (Lay × LayH)) (x : WAt W B M h H) (b : Blk) (hp : Part_ M b) (hv : b.vec = false) :
    Calls Try.prog 67 #[.pointer (some ⟨B, 0, none⟩), b.val] W (MatPost W (M.mat b.kind b.layer)) := by
  rcases hp with ⟨h1, -⟩ | ⟨-, hk | hk | ⟨⟨j, hj, hk⟩, h2, h3⟩⟩
  · rw [hv] at h1; cases h1
  · exact matrix_top W B M h H x _ _ _ _ _ (.inl hk)
  · exact matrix_top W B M h H x _ _ _ _ _ (.inr hk)
  · obtain ⟨i, hi⟩ : ∃ i : Nat, b.layer = i := ⟨b.layer.toNat, by omega⟩
    unfold Blk.val
    rw [hk, hi]
    exact matrix_lay W B M h H x j i hj _ _ _ (by omega)
set_option maxRecDepth 100000 in
set_option maxHeartbeats 2000000 in
theorem check_vec (W : World) (B : Nat) (M : Mod) (h : ModH) (H : List (Lay × LayH)) (x : WAt W B M h H) (b : Blk) (hp : Part_ M b) (hv : b.vec = true) :
    Calls Try.prog 93 #[.pointer (some ⟨B, 0, none⟩), b.val] W fun e w' => e = .returned (.int .i64 (M.partErr b)) ∧ Below W.heap.size W w' := by
  have hp' : (b.kind = 2 ∨ b.kind = 7 ∨ b.kind = 11) ∧ (b.kind ≠ 11 → 0 ≤ b.layer ∧ b.layer < M.ls.length) := by
    rcases hp with ⟨-, h2⟩ | ⟨h1, -⟩
    · exact h2
    · rw [hv] at h1; cases h1
  obtain ⟨l, hl⟩ : ∃ l, l = M.vec b.kind b.layer := ⟨_, rfl⟩
  obtain ⟨E, hE⟩ : ∃ E, E = M.partErr b := ⟨_, rfl⟩
  have hE' : E = if (l.length : Int) ≠ b.cols then 13 else vecErr l := by rw [hE, hl]; unfold Mod.partErr; rw [if_pos hv]
  rw [← hE]
  obtain ⟨w1, hw1⟩ : ∃ w1, w1 = W.alloc (.cells b.cells.toArray 131) := ⟨_, rfl⟩
  have hb1 : Below W.heap.size W w1 := by rw [hw1]; exact (Below.refl _ _).alloc (Nat.le_refl _) _
  have hblk : w1.heap[W.heap.size]? = some (.cells b.cells.toArray 131 (0, 0)) := by rw [hw1]; exact heap_alloc_new W _
  have hc := vector_at w1 B M h H (x.new hb1) b hp'.1 hp'.2
  rw [← hl] at hc
  obtain ⟨kind, layer, rows, cols, vec⟩ := b
  simp only at hv hE'
  subst hv
  unfold Blk.val at hc ⊢
  simp only at hc ⊢
  unfold Blk.cells at hblk hw1
  simp only at hblk hw1
  have k0 : w1.cell? ⟨W.heap.size, 0, none⟩ = some (.int .i64 kind) := by rw [cell_of_row _ _ 0 _ _ _ hblk]; rfl
  have k1 : w1.cell? ⟨W.heap.size, 1, none⟩ = some (.int .i64 layer) := by rw [cell_of_row _ _ 1 _ _ _ hblk]; rfl
  have k2 : w1.cell? ⟨W.heap.size, 2, none⟩ = some (.int .i64 rows) := by rw [cell_of_row _ _ 2 _ _ _ hblk]; rfl
  have k3 : w1.cell? ⟨W.heap.size, 3, none⟩ = some (.int .i64 cols) := by rw [cell_of_row _ _ 3 _ _ _ hblk]; rfl
  have k4 : w1.cell? ⟨W.heap.size, 4, none⟩ = some (.bool true) := by rw [cell_of_row _ _ 4 _ _ _ hblk]; rfl
  have HC := Lib.hid (And.intro hc (And.intro hb1 (And.intro hblk hw1)))
  have HE := Lib.hid hE'
  clear hc hb1 hblk hw1 hE hE' hp hp' x hl
  go_enter Try.func93, Try.ntmps93
  go_upto_region 1 with fail
  rw [show (#[Value.int .i64 kind, .int .i64 layer, .int .i64 rows, .int .i64 cols, .bool true] : Array Value) = [Value.int .i64 kind, .int .i64 layer, .int .i64 rows, .int .i64 cols, .bool true].toArray from rfl, ← HC.out.2.2.2]
  go_upto_region 3 with (go_at_call 66; (with_reducible refine Calls.mono HC.out.1 ?_); rintro e w2 ⟨g, o, A, c, rfl, hcc, hs, hb2⟩; have k32 := (cell_of_row _ _ 3 _ _ _ ((hb2.block _ (Array.getElem?_eq_some_iff.1 HC.out.2.2.1).1).trans HC.out.2.2.1)); have HV := Lib.hid (And.intro hs (And.intro (below_chain HC.out.2.1 hb2) (vec_any w2 _ l hs))); clear hs hb2)
  rw [show ([Value.int .i64 kind, .int .i64 layer, .int .i64 rows, .int .i64 cols, .bool true] : List Value).toArray[3]? = some (.int .i64 cols) from rfl] at k32
  by_cases hcols : (l.length : Int) = cols
  · subst hcols
    have hE2 : E = vecErr l := by rw [HE.out, if_neg (by simp)]
    have HE2 := Lib.hid hE2
    clear hE2
    go_wp2_with (go_at_call 117; (with_reducible refine Calls.mono HV.out.2.2 ?_); rintro e w3 ⟨rfl, hb3⟩; have HB := Lib.hid hb3; clear hb3)
    go_ret
    exact ⟨by rw [HE2.out]; rfl, below_chain HV.out.2.1 HB.out⟩
  · have hE2 : E = 13 := by rw [HE.out, if_pos hcols]
    have HE2 := Lib.hid hE2
    clear hE2
    go_wp2_with fail
    go_ret
    exact ⟨by rw [HE2.out]; rfl, HV.out.2.1⟩
set_option maxRecDepth 100000 in
set_option maxHeartbeats 4000000 in
theorem check_mat (W : World) (B : Nat) (M : Mod) (h : ModH) (H : List (Lay × LayH)) (x : WAt W B M h H) (b : Blk) (hp : Part_ M b) (hv : b.vec = false) :
    Calls Try.prog 93 #[.pointer (some ⟨B, 0, none⟩), b.val] W fun e w' => e = .returned (.int .i64 (M.partErr b)) ∧ Below W.heap.size W w' := by
  obtain ⟨m, hl⟩ : ∃ m, m = M.mat b.kind b.layer := ⟨_, rfl⟩
  obtain ⟨E, hE⟩ : ∃ E, E = M.partErr b := ⟨_, rfl⟩
  have hE' : E = if m.rows ≠ b.rows ∨ m.cols ≠ b.cols then 13 else matErr m := by rw [hE, hl]; unfold Mod.partErr; rw [if_neg (by rw [hv]; decide)]
  rw [← hE]
  obtain ⟨w1, hw1⟩ : ∃ w1, w1 = W.alloc (.cells b.cells.toArray 131) := ⟨_, rfl⟩
  have hb1 : Below W.heap.size W w1 := by rw [hw1]; exact (Below.refl _ _).alloc (Nat.le_refl _) _
  have hblk : w1.heap[W.heap.size]? = some (.cells b.cells.toArray 131 (0, 0)) := by rw [hw1]; exact heap_alloc_new W _
  have hc := matrix_at w1 B M h H (x.new hb1) b hp hv
  rw [← hl] at hc
  obtain ⟨kind, layer, rows, cols, vec⟩ := b
  simp only at hv hE'
  subst hv
  unfold Blk.val at hc ⊢
  simp only at hc ⊢
  unfold Blk.cells at hblk hw1
  simp only at hblk hw1
  have k0 : w1.cell? ⟨W.heap.size, 0, none⟩ = some (.int .i64 kind) := by rw [cell_of_row _ _ 0 _ _ _ hblk]; rfl
  have k1 : w1.cell? ⟨W.heap.size, 1, none⟩ = some (.int .i64 layer) := by rw [cell_of_row _ _ 1 _ _ _ hblk]; rfl
  have k2 : w1.cell? ⟨W.heap.size, 2, none⟩ = some (.int .i64 rows) := by rw [cell_of_row _ _ 2 _ _ _ hblk]; rfl
  have k3 : w1.cell? ⟨W.heap.size, 3, none⟩ = some (.int .i64 cols) := by rw [cell_of_row _ _ 3 _ _ _ hblk]; rfl
  have k4 : w1.cell? ⟨W.heap.size, 4, none⟩ = some (.bool false) := by rw [cell_of_row _ _ 4 _ _ _ hblk]; rfl
  have HC := Lib.hid (And.intro hc (And.intro hb1 (And.intro hblk hw1)))
  have HE := Lib.hid hE'
  clear hc hb1 hblk hw1 hE hE' hp x hl
  go_enter Try.func93, Try.ntmps93
  go_upto_region 1 with fail
  rw [show (#[Value.int .i64 kind, .int .i64 layer, .int .i64 rows, .int .i64 cols, .bool false] : Array Value) = [Value.int .i64 kind, .int .i64 layer, .int .i64 rows, .int .i64 cols, .bool false].toArray from rfl, ← HC.out.2.2.2]
  go_upto_region 7 with (go_at_call 67; (with_reducible refine Calls.mono HC.out.1 ?_); rintro e w2 ⟨g, o, A, c, rfl, hcc, hs, hb2⟩; have k32 := (cell_of_row _ _ 3 _ _ _ ((hb2.block _ (Array.getElem?_eq_some_iff.1 HC.out.2.2.1).1).trans HC.out.2.2.1)); have k22 := (cell_of_row _ _ 2 _ _ _ ((hb2.block _ (Array.getElem?_eq_some_iff.1 HC.out.2.2.1).1).trans HC.out.2.2.1)); have m0 := hcc 0 _ rfl; have m1 := hcc 1 _ rfl; have m2 := hcc 2 _ rfl; have HV := Lib.hid (And.intro hs (below_chain HC.out.2.1 hb2)); clear hs hb2 hcc)
  rw [show ([Value.int .i64 kind, .int .i64 layer, .int .i64 rows, .int .i64 cols, .bool false] : List Value).toArray[3]? = some (.int .i64 cols) from rfl] at k32
  rw [show ([Value.int .i64 kind, .int .i64 layer, .int .i64 rows, .int .i64 cols, .bool false] : List Value).toArray[2]? = some (.int .i64 rows) from rfl] at k22
  rw [Nat.add_zero] at m0
  obtain ⟨mr, mcl, ml⟩ := m
  simp only at m0 m1 m2 HE HV
  clear k0 k1 k2 k3 k4
  by_cases hr : mr = rows
  · subst hr
    by_cases hcl : mcl = cols
    · subst hcl
      have hE2 : E = matErr ⟨mr, mcl, ml⟩ := by rw [HE.out, if_neg (by simp)]
      have hcall := fun nq => mat_any (w2.drewN nq) _ ⟨mr, mcl, ml⟩ (HV.out.1.new (below_drewN' (Below.refl _ _) nq))
      have HE2 := Lib.hid (And.intro hE2 hcall)
      clear hE2 hcall
      go_quiet (fail)
      have HB2 := Lib.hid (HE2.out.2 nq)
      have HD := Lib.hid (below_drewN' HV.out.2 nq)
      obtain ⟨w3, hw3⟩ : ∃ w3, w3 = w2.drewN nq := ⟨_, rfl⟩
      rw [← hw3] at HB2 HD ⊢
      have m03 : w3.cell? ⟨g, o, none⟩ = some (.int .i64 mr) := by rw [hw3]; exact m0
      have m13 : w3.cell? ⟨g, o + 1, none⟩ = some (.int .i64 mcl) := by rw [hw3]; exact m1
      have m23 : w3.cell? ⟨g, o + 2, none⟩ = some (.slice A ml.length c) := by rw [hw3]; exact m2
      clear hw3 m0 m1 m2 k32 k22
      go_wp2_with (go_at_call 73; (with_reducible refine Calls.mono HB2.out ?_); rintro e w4 ⟨rfl, hb4⟩; have HB := Lib.hid hb4; clear hb4)
      go_ret
      exact ⟨by rw [HE2.out.1]; rfl, below_chain HD.out HB.out⟩
    · have hE2 : E = 13 := by rw [HE.out, if_pos (.inr hcl)]
      have HE2 := Lib.hid hE2
      clear hE2
      go_quiet (fail)
      go_wp2_with fail
      go_ret
      exact ⟨by rw [HE2.out]; rfl, below_drewN' HV.out.2 nq⟩
  · have hE2 : E = 13 := by rw [HE.out, if_pos (.inl hr)]
    have HE2 := Lib.hid hE2
    clear hE2
    go_quiet (fail)
    go_wp2_with fail
    go_ret
    exact ⟨by rw [HE2.out]; rfl, below_drewN' HV.out.2 nq⟩
/-- What is wrong with a part. -/
theorem check_part (W : World) (B : Nat) (M : Mod) (h : ModH) (H : List (Lay × LayH)) (x : WAt W B M h H) (b : Blk) (hp : Part_ M b) :
    Calls Try.prog 93 #[.pointer (some ⟨B, 0, none⟩), b.val] W fun e w' => e = .returned (.int .i64 (M.partErr b)) ∧ Below W.heap.size W w' := by
  cases hv : b.vec with
  | true => exact check_vec W B M h H x b hp hv
  | false => exact check_mat W B M h H x b hp hv
theorem part_of {M : Mod} {c : C6} (hl : (M.ls.length : Int) = c.l) (hc : 1 ≤ c.l) : ∀ b ∈ blks c, Part_ M b := by
  intro b hb
  simp only [blks, List.mem_append, List.map_cons, List.map_nil, List.mem_singleton, layersBlks, List.mem_flatMap, List.mem_range] at hb
  rcases hb with ((rfl | ⟨i, hi, hb⟩) | rfl) | rfl
  · exact .inr ⟨rfl, .inl rfl⟩
  · have hi0 : 0 ≤ (i : Int) ∧ (i : Int) < M.ls.length := by omega
    simp only [layerBlks, List.mem_append, List.map_cons, List.map_nil, List.mem_cons, List.not_mem_nil, or_false] at hb
    rcases hb with (((rfl | hb) | rfl) | hb) | rfl
    · exact .inl ⟨rfl, .inl rfl, fun _ => hi0⟩
    · rcases hb with rfl | rfl | rfl | rfl
      · exact .inr ⟨rfl, .inr (.inr ⟨⟨4, by decide, rfl⟩, hi0⟩)⟩
      · exact .inr ⟨rfl, .inr (.inr ⟨⟨8, by decide, rfl⟩, hi0⟩)⟩
      · exact .inr ⟨rfl, .inr (.inr ⟨⟨12, by decide, rfl⟩, hi0⟩)⟩
      · exact .inr ⟨rfl, .inr (.inr ⟨⟨16, by decide, rfl⟩, hi0⟩)⟩
    · exact .inl ⟨rfl, .inr (.inl rfl), fun _ => hi0⟩
    · rcases hb with rfl | rfl
      · exact .inr ⟨rfl, .inr (.inr ⟨⟨20, by decide, rfl⟩, hi0⟩)⟩
      · exact .inr ⟨rfl, .inr (.inr ⟨⟨24, by decide, rfl⟩, hi0⟩)⟩
    · exact .inr ⟨rfl, .inr (.inr ⟨⟨28, by decide, rfl⟩, hi0⟩)⟩
  · exact .inl ⟨rfl, .inr (.inr rfl), fun h => absurd rfl h⟩
  · exact .inr ⟨rfl, .inr (.inl rfl)⟩
end Go.Proofs.Ytfhaebaegkpkhaa.Cfg
