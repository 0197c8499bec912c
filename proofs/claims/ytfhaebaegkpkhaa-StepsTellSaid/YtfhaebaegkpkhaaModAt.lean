/- A model in memory; where its vectors and matrices are. -/
import Derived.Test.YtfhaebaegkpkhaaByt
import Derived.Test.YtfhaebaegkpkhaaWt
import Derived.Test.YtfhaebaegkpkhaaRev
import Derived.Test.YtfhaebaegkpkhaaQSet
import Derived.Test.YtfhaebaegkpkhaaIMap
import Derived.Test.YtfhaebaegkpkhaaTen
set_option linter.unusedVariables false
set_option linter.unusedSimpArgs false
namespace Go.Proofs.Ytfhaebaegkpkhaa.Cfg
open Go.RowKit OwnS Byt QTail RevL
attribute [local go_sem ↓] Kit.execOp_call_slot
attribute [local go_sem] Kit.callSlot_func
structure LayH where
  n1 : Value
  q : Value
  k : Value
  v : Value
  o : Value
  n2 : Value
  g : Value
  u : Value
  d : Value
def matC (m : Mat) (h : Value) : List Value := [.int .i64 m.rows, .int .i64 m.cols, h]
def layC (p : Lay × LayH) : List Value :=
  [p.2.n1, .int .i64 p.1.q.rows, .int .i64 p.1.q.cols, p.2.q, .int .i64 p.1.k.rows, .int .i64 p.1.k.cols, p.2.k, .int .i64 p.1.v.rows, .int .i64 p.1.v.cols, p.2.v, .int .i64 p.1.o.rows, .int .i64 p.1.o.cols, p.2.o, p.2.n2,
   .int .i64 p.1.g.rows, .int .i64 p.1.g.cols, p.2.g, .int .i64 p.1.u.rows, .int .i64 p.1.u.cols, p.2.u, .int .i64 p.1.d.rows, .int .i64 p.1.d.cols, p.2.d]
/-- A list of whole numbers beneath a slice value. -/
def Ints (w : World) (v : Value) (l : List Int) : Prop := Sees w 1 v l.length (intsV l)
theorem Ints.new {w w' : World} {v : Value} {l : List Int} (h : Ints w v l) (hb : Below w.heap.size w w') : Ints w' v l := Sees.new h hb
structure LaySees (w : World) (L : Lay) (h : LayH) : Prop where
  n1 : Ints w h.n1 L.n1
  q : Ints w h.q L.q.l
  k : Ints w h.k L.k.l
  v : Ints w h.v L.v.l
  o : Ints w h.o L.o.l
  n2 : Ints w h.n2 L.n2
  g : Ints w h.g L.g.l
  u : Ints w h.u L.u.l
  d : Ints w h.d L.d.l
theorem LaySees.new {w w' : World} {L : Lay} {h : LayH} (x : LaySees w L h) (hb : Below w.heap.size w w') : LaySees w' L h := ⟨x.n1.new hb, x.q.new hb, x.k.new hb, x.v.new hb, x.o.new hb, x.n2.new hb, x.g.new hb, x.u.new hb, x.d.new hb⟩
structure ModH where
  al : Value
  ps : Value
  em : Value
  ls : Value
  norm : Value
  out : Value
def modC (M : Mod) (h : ModH) : List Value :=
  [.int .i64 M.c.v, .int .i64 M.c.d, .int .i64 M.c.h, .int .i64 M.c.l, .int .i64 M.c.c, .int .i64 M.c.x, h.al, h.ps, .int .i64 M.em.rows, .int .i64 M.em.cols, h.em, h.ls, h.norm, .int .i64 M.out.rows, .int .i64 M.out.cols, h.out]
structure ModSees (w : World) (M : Mod) (h : ModH) (H : List (Lay × LayH)) : Prop where
  al : Sees w 1 h.al M.al.length (bytesV M.al)
  alb : ∀ x ∈ M.al, x < 256
  ps : ∃ A c, h.ps = .slice A 0 c
  em : Ints w h.em M.em.l
  norm : Ints w h.norm M.norm
  out : Ints w h.out M.out.l
  lays : M.ls = H.map (·.1)
  ls : Sees w 23 h.ls H.length (H.map layC).flatten
  lay : ∀ p ∈ H, LaySees w p.1 p.2
theorem ModSees.new {w w' : World} {M : Mod} {h : ModH} {H : List (Lay × LayH)} (x : ModSees w M h H) (hb : Below w.heap.size w w') : ModSees w' M h H :=
  ⟨x.al.new hb, x.alb, x.ps, x.em.new hb, x.norm.new hb, x.out.new hb, x.lays, x.ls.new hb, fun p hp => (x.lay p hp).new hb⟩
structure WAt (w : World) (B : Nat) (M : Mod) (h : ModH) (H : List (Lay × LayH)) : Prop where
  blk : w.heap[B]? = some (.cells (modC M h).toArray 31 (0, 0))
  sees : ModSees w M h H
theorem WAt.new {w w' : World} {B : Nat} {M : Mod} {h : ModH} {H : List (Lay × LayH)} (x : WAt w B M h H) (hb : Below w.heap.size w w') : WAt w' B M h H := ⟨(hb.block _ (Array.getElem?_eq_some_iff.1 x.blk).1).trans x.blk, x.sees.new hb⟩
/-- The i-th layer's cells. -/
theorem ModSees.layer {w : World} {M : Mod} {h : ModH} {H : List (Lay × LayH)} (x : ModSees w M h H) {i : Nat} (hi : i < M.ls.length) : ∃ p g o cap, H[i]? = some p ∧ M.lay (i : Int) = p.1 ∧ h.ls = .slice (some ⟨g, o, none⟩) M.ls.length cap ∧ w.rangeAt g (o + i * 23) (layC p) ∧ LaySees w p.1 p.2 ∧ g < w.heap.size := by
  have hl : M.ls.length = H.length := by rw [x.lays, List.length_map]
  obtain ⟨g, o, cap, e, -, -, hr⟩ := x.ls.holds (by omega)
  have hp : H[i]? = some H[i] := List.getElem?_eq_getElem (by omega)
  have hr' := at_flat (enc := layC) (s := 23) (fun d _ => rfl) hr i _ hp
  refine ⟨H[i], g, o, cap, hp, ?_, by rw [hl]; exact e, hr', x.lay _ (List.getElem_mem _), block_lt_of_cell (hr' 0 _ rfl)⟩
  unfold Mod.lay
  rw [x.lays, Int.toNat_natCast, List.getD_eq_getElem?_getD, List.getElem?_map, hp]
  rfl
/-- What a pointer to a vector's header is. -/
def VecPost (W : World) (l : List Int) (e : Ending) (w' : World) : Prop := ∃ g o A c, e = .returned (.pointer (some ⟨g, o, none⟩)) ∧ w'.cell? ⟨g, o, none⟩ = some (.slice A l.length c) ∧ Ints w' (.slice A l.length c) l ∧ Below W.heap.size W w'
def MatPost (W : World) (m : Mat) (e : Ending) (w' : World) : Prop := ∃ g o A c, e = .returned (.pointer (some ⟨g, o, none⟩)) ∧ w'.rangeAt g o (matC m (.slice A m.l.length c)) ∧ Ints w' (.slice A m.l.length c) m.l ∧ Below W.heap.size W w'
theorem Ints.form {w : World} {v : Value} {l : List Int} (h : Ints w v l) : ∃ A c, v = .slice A l.length c := by obtain ⟨A, c, e, -, -⟩ := Sees.form h; exact ⟨A, c, e⟩
theorem below_drewN' {B : Nat} {w W : World} (h : Below B w W) (n : Nat) : Below B w (W.drewN n) := ⟨h.os, h.tape, h.output, h.size, h.block⟩
set_option maxRecDepth 100000 in
set_option maxHeartbeats 1000000 in
theorem vector_at (W : World) (B : Nat) (M : Mod) (h : ModH) (H : List (Lay × LayH)) (x : WAt W B M h H) (b : Blk) (hv : b.kind = 2 ∨ b.kind = 7 ∨ b.kind = 11) (hi : b.kind ≠ 11 → 0 ≤ b.layer ∧ b.layer < M.ls.length) :
    Calls Try.prog 66 #[.pointer (some ⟨B, 0, none⟩), b.val] W (VecPost W (M.vec b.kind b.layer)) := by
  obtain ⟨kind, layer, rows, cols, vec⟩ := b
  unfold Blk.val
  simp only at hv hi ⊢
  obtain ⟨w1, hw1⟩ : ∃ w1, w1 = W.alloc (.cells #[.int .i64 kind, .int .i64 layer, .int .i64 rows, .int .i64 cols, .bool vec] 131) := ⟨_, rfl⟩
  have hb1 : Below W.heap.size W w1 := by rw [hw1]; exact (Below.refl _ _).alloc (Nat.le_refl _) _
  have x1 := x.new hb1
  have k0 : w1.cell? ⟨W.heap.size, 0, none⟩ = some (.int .i64 kind) := by rw [hw1, cell_of_row _ _ 0 _ _ _ (heap_alloc_new W _)]; rfl
  have k1 : w1.cell? ⟨W.heap.size, 1, none⟩ = some (.int .i64 layer) := by rw [hw1, cell_of_row _ _ 1 _ _ _ (heap_alloc_new W _)]; rfl
  have c11 : w1.cell? ⟨B, 11, none⟩ = some h.ls := by rw [cell_of_row _ _ 11 _ _ _ x1.blk]; rfl
  have c12 : w1.cell? ⟨B, 12, none⟩ = some h.norm := by rw [cell_of_row _ _ 12 _ _ _ x1.blk]; rfl
  rcases hv with rfl | rfl | rfl
  · obtain ⟨i, rfl⟩ : ∃ i : Nat, layer = i := ⟨layer.toNat, by have := (hi (by decide)).1; omega⟩
    have hi' : i < M.ls.length := by have := (hi (by decide)).2; omega
    obtain ⟨p, g, o, cap, hp, hM, hls, hr, hsee, hg⟩ := x1.sees.layer hi'
    have e : M.vec 2 (i : Int) = p.1.n1 := by unfold Mod.vec; rw [if_pos rfl, hM]
    rw [e]
    obtain ⟨A, c, en⟩ := hsee.n1.form
    have hsn := hsee.n1
    have cn : w1.cell? ⟨g, o + i * 23, none⟩ = some p.2.n1 := hr 0 _ rfl
    rw [en] at cn hsn
    rw [hls] at c11
    have hlt : (i : Int) < (M.ls.length : Int) := by omega
    have HS := Lib.hid (And.intro hsn (And.intro hb1 cn))
    have HW1 := Lib.hid hw1
    clear hsee hsn hr hp hM hls x1 x hb1 hw1 en hi e cn
    go_enter Try.func66, Try.ntmps66
    go_upto_region 1 with fail
    rw [← HW1.out]
    go_upto_region 3 with fail
    go_quiet (fail)
    go_wp2_with fail
    go_ret
    exact ⟨g, o + i * 23 + 0, A, c, rfl, HS.out.2.2, HS.out.1.new (below_drewN' (Below.refl _ _) _), below_drewN' HS.out.2.1 _⟩
  · obtain ⟨i, rfl⟩ : ∃ i : Nat, layer = i := ⟨layer.toNat, by have := (hi (by decide)).1; omega⟩
    have hi' : i < M.ls.length := by have := (hi (by decide)).2; omega
    obtain ⟨p, g, o, cap, hp, hM, hls, hr, hsee, hg⟩ := x1.sees.layer hi'
    have e : M.vec 7 (i : Int) = p.1.n2 := by unfold Mod.vec; rw [if_neg (by decide), if_pos rfl, hM]
    rw [e]
    obtain ⟨A, c, en⟩ := hsee.n2.form
    have hsn := hsee.n2
    have cn : w1.cell? ⟨g, o + i * 23 + 13, none⟩ = some p.2.n2 := hr 13 _ rfl
    rw [en] at cn hsn
    rw [hls] at c11
    have hlt : (i : Int) < (M.ls.length : Int) := by omega
    have HS := Lib.hid (And.intro hsn (And.intro hb1 cn))
    have HW1 := Lib.hid hw1
    clear hsee hsn hr hp hM hls x1 x hb1 hw1 en hi e cn
    go_enter Try.func66, Try.ntmps66
    go_upto_region 1 with fail
    rw [← HW1.out]
    go_upto_region 5 with fail
    go_quiet (fail)
    go_wp2_with fail
    go_ret
    exact ⟨g, o + i * 23 + 13, A, c, rfl, HS.out.2.2, HS.out.1.new (below_drewN' (Below.refl _ _) _), below_drewN' HS.out.2.1 _⟩
  · have e : M.vec 11 layer = M.norm := by unfold Mod.vec; rw [if_neg (by decide), if_neg (by decide)]
    rw [e]
    have hsee := x1.sees.norm
    obtain ⟨A, c, en⟩ := hsee.form
    rw [en] at c12 hsee
    have HS := Lib.hid (And.intro hsee (And.intro hb1 c12))
    have HW1 := Lib.hid hw1
    clear hsee x1 x hb1 hw1 en hi e c12 c11
    go_enter Try.func66, Try.ntmps66
    go_upto_region 1 with fail
    rw [← HW1.out]
    go_wp2_with fail
    go_ret
    exact ⟨B, 12, A, c, rfl, HS.out.2.2, HS.out.1, HS.out.2.1⟩
end Go.Proofs.Ytfhaebaegkpkhaa.Cfg
