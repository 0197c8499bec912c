import Derived.Test.YtfhaebaegkpkhaaCfg
namespace Go.Proofs.Ytfhaebaegkpkhaa.Cfg
open Go.RowKit
attribute [local go_sem ↓] Kit.execOp_call_slot
attribute [local go_sem] Kit.callSlot_func

/-- A part, as the program has it. -/
structure Blk where
  kind : Int
  layer : Int
  rows : Int
  cols : Int
  vec : Bool

def Blk.cells (b : Blk) : List Value := [.int .i64 b.kind, .int .i64 b.layer, .int .i64 b.rows, .int .i64 b.cols, .bool b.vec]
def flat (l : List Blk) : List Value := l.flatMap Blk.cells
theorem flat_append (l m : List Blk) : flat (l ++ m) = flat l ++ flat m := by simp [flat]
theorem flat_length (l : List Blk) : (flat l).length = l.length * 5 := by
  induction l with
  | nil => rfl
  | cons b l ih => simp [flat, Blk.cells] at ih ⊢; omega

theorem info77 : (Try.prog.info? 131).map (fun i => (i.zero, i.size, i.bytes)) = some (some (.agg #[.int .i64 0, .int .i64 0, .int .i64 0, .int .i64 0, .bool false]), 5, 40) := by kernel_rfl

/-- The variable l of 'blocks': a box at B that holds a slice that owns parts. -/
structure Held (W : World) (B base : Nat) (l : List Blk) : Prop where
  ex : ∃ v, Boxed W B 175 v ∧ W.ownsRow base 131 5 v l.length (flat l)

/-- What a call that appends to the variable leaves. -/
structure Grew (W W' : World) (B base : Nat) (l : List Blk) : Prop where
  held : Held W' B base l
  below : Below base W W'
  keep : ∀ (b : Nat) (t : TypeId) (cs : Array Value), t ≠ 131 → b ≠ B → W.heap[b]? = some (.cells cs t (0, 0)) → W'.heap[b]? = some (.cells cs t (0, 0))
  size : W.heap.size ≤ W'.heap.size

theorem Grew.trans {W W1 W2 : World} {B base : Nat} {l l' : List Blk} (h : Grew W W1 B base l) (k : Grew W1 W2 B base l') : Grew W W2 B base l' :=
  ⟨k.held, h.below.trans k.below, fun b t cs ht hb hc => k.keep b t cs ht hb (h.keep b t cs ht hb hc), Nat.le_trans h.size k.size⟩

theorem Held.alloc {W : World} {B base : Nat} {l : List Blk} (h : Held W B base l) (o : Obj) : Held (W.alloc o) B base l := by
  obtain ⟨v, hv, hr⟩ := h.ex
  exact ⟨v, hv.alloc o, hr.alloc o⟩

theorem alloc_keep (W : World) (o : Obj) {b : Nat} {t : TypeId} {cs : Array Value} (h : W.heap[b]? = some (.cells cs t (0, 0))) : (W.alloc o).heap[b]? = some (.cells cs t (0, 0)) :=
  (Below.heap_alloc W o b (Array.getElem?_eq_some_iff.1 h).1).trans h

/-- One append: what stands behind the store into the box. -/
theorem grew_of {W w1 : World} {B base : Nat} {l : List Blk} {x : Blk} {v : Value} {g cap m : Nat} {tmp : Obj} (hbase : base ≤ W.heap.size) (hB : base ≤ B) (hv : Boxed W B 175 v) (hr : W.ownsRow base 131 5 v l.length (flat l))
    (hown : w1.ownsRow base 131 5 (.slice (some ⟨g, 0, none⟩) m cap) m (flat l ++ x.cells)) (hm : m = l.length + 1) (hg : (W.alloc tmp).grownBy w1 v.ownBlock) :
    Grew W (w1.setCell ⟨B, 0, none⟩ (.slice (some ⟨g, 0, none⟩) m cap)) B base (l ++ [x]) := by
  obtain ⟨h1, h2, h3, _, h5⟩ := hv.appended (by decide) hr hbase hB hown hg
  have hs : W.heap.size ≤ w1.heap.size := by have := hg.size; simp at this; omega
  refine ⟨⟨_, h2, ?_⟩, h5, fun b t cs ht hb hc => ?_, by simpa [World.setCell] using hs⟩
  · subst hm
    simpa [flat_append, flat] using h3
  · rw [Below.heap_setCell _ _ _ _ hb]
    refine (hg.block b ?_ ?_).trans (alloc_keep W tmp hc)
    · have := (Array.getElem?_eq_some_iff.1 hc).1
      simp; omega
    · rcases hr.2 with ⟨rfl, _⟩ | ⟨g', cap', cur, rfl, _, hh, _⟩
      · simp [Value.ownBlock]
      · intro e
        obtain rfl : b = g' := by simpa [Value.ownBlock] using e
        rw [hc] at hh
        simp at hh
        exact ht hh.2


set_option maxRecDepth 100000 in
set_option maxHeartbeats 1000000 in
theorem vector_any (layer kind : Int) (W : World) (B C base : Nat) (c : C6) (l : List Blk) (hbase : base ≤ W.heap.size) (hB : base ≤ B) (hl : l.length ≤ 100)
    (hc : W.heap[C]? = some (.cells #[.int .i64 c.v, .int .i64 c.d, .int .i64 c.h, .int .i64 c.l, .int .i64 c.c, .int .i64 c.x] 23 (0, 0))) (hh : Held W B base l) :
    Calls Try.prog 100 #[.int .i64 layer, .int .i64 kind, .pointer (some ⟨B, 0, none⟩), .pointer (some ⟨C, 0, none⟩)] W fun e W' =>
      e = .returned (.tuple #[]) ∧ Grew W W' B base (l ++ [⟨kind, layer, 1, c.d, true⟩]) := by
  obtain ⟨v, hv, hr⟩ := hh.ex
  obtain ⟨i0, hi, hz0, hz1, hz2⟩ := info_parts info77
  have hcB := hv.cell
  have hfB := hv.frozen
  have hcC : W.cell? ⟨C, 1, none⟩ = some (.int .i64 c.d) := by rw [cell_of_row W C 1 _ _ _ hc]; rfl
  have HG := Lib.hid (And.intro hv hr)
  have HI := Lib.hid (And.intro hi (And.intro hz0 (And.intro hz1 hz2)))
  have Hm : Hid (l.length + 1 ≤ maxLen ∧ (l.length + 1) * 40 ≤ 140737488355328) := ⟨by unfold maxLen; omega, by omega⟩
  clear hl hv hr hc hh hi hz0 hz1 hz2
  go_enter Try.func100, Try.ntmps100
  go_wp2_with (at_builtin; refine wpList_append_lies _ (by rfl) (.tmp 6) (.tmp 12) 175 (by rfl) base 131 i0 _ 5 40 Try.underlying175 HI.out.1 HI.out.2.1 HI.out.2.2.1 HI.out.2.2.2 (by rfl) (by decide) v l.length (flat l) (by rfl) (HG.out.2.alloc _) ⟨W.heap.size, 0, none⟩ 1 1 (Blk.cells ⟨kind, layer, 1, c.d, true⟩) (by rfl) (by rfl) (World.news_of_block (heap_alloc_new W _)) (by intro u hu; simp [Blk.cells] at hu; rcases hu with rfl | rfl | rfl | rfl | rfl <;> rfl) (by decide) Hm.out.1 Hm.out.2 (by simp; omega) (W.heap.size + 1) (by simp) ?_; intro g cap w1 hown hgrow hat hlt; have hG := grew_of (x := ⟨kind, layer, 1, c.d, true⟩) hbase hB HG.out.1 HG.out.2 hown rfl hgrow; have hb1 := (HG.out.1.alloc _).kept hgrow (HG.out.1.not_row (by decide) HG.out.2); have hcB1 := hb1.cell; have hfB1 := hb1.frozen; have HO := Lib.hid hG; clear hG hb1 hown hgrow hat hlt)
  go_end0
  exact ⟨rfl, HO.out⟩

def mk (layer rows cols : Int) (k : Int) : Blk := ⟨k, layer, rows, cols, false⟩

theorem Grew.refl {W : World} {B base : Nat} {l : List Blk} (h : Held W B base l) : Grew W W B base l := ⟨h, Below.refl _ _, fun _ _ _ _ _ hc => hc, Nat.le_refl _⟩

set_option maxRecDepth 100000 in
set_option maxHeartbeats 1000000 in
theorem matrix_any (layer rows cols : Int) (ks : List Int) (kb : Nat) (W : World) (B base : Nat) (l : List Blk) (hbase : base ≤ W.heap.size) (hB : base ≤ B) (hl : l.length + ks.length ≤ 100) (hkB : kb ≠ B)
    (hk : W.heap[kb]? = some (.cells (ks.map (Value.int .i64)).toArray 3 (0, 0))) (hh : Held W B base l) :
    Calls Try.prog 99 #[.int .i64 layer, .int .i64 rows, .int .i64 cols, .slice (some ⟨kb, 0, none⟩) ks.length ks.length, .pointer (some ⟨B, 0, none⟩)] W fun e W' =>
      e = .returned (.tuple #[]) ∧ Grew W W' B base (l ++ ks.map (mk layer rows cols)) := by
  obtain ⟨i0, hi, hz0, hz1, hz2⟩ := info_parts info77
  have HI := Lib.hid (And.intro hi (And.intro hz0 (And.intro hz1 hz2)))
  have HK := Lib.hid (And.intro hk hh)
  have hlen : ks.length ≤ 100 := by omega
  clear hk hh hi hz0 hz1 hz2
  go_enter Try.func99, Try.ntmps99
  go_wp2_with fail
  go_loopw [13] (fun i wr => ∃ k : Nat, k ≤ ks.length ∧ i = .int .i64 k ∧ Grew W wr B base (l ++ (ks.take k).map (mk layer rows cols)))
    (fun i _ => ks.length - (intOf i).toNat)
  case atStart => exact ⟨0, Nat.zero_le _, rfl, by simpa using Grew.refl HK.out.2⟩
  case round =>
    obtain ⟨k, hk, rfl, hg⟩ := hrel
    have HG := Lib.hid hg
    by_cases hlt : k < ks.length
    · obtain ⟨v, hv, hr⟩ := hg.held.ex
      have hcB := hv.cell
      have hfB := hv.frozen
      have hck : wr.cell? ⟨kb, k, none⟩ = some (.int .i64 ks[k]) := by
        rw [cell_of_row wr kb k _ _ _ (hg.keep kb _ _ (by decide) hkB HK.out.1)]; simp [hlt]
      have hlen2 : (l ++ (ks.take k).map (mk layer rows cols)).length = l.length + k := by simp; omega
      have Hm : Hid ((l ++ (ks.take k).map (mk layer rows cols)).length + 1 ≤ maxLen ∧ ((l ++ (ks.take k).map (mk layer rows cols)).length + 1) * 40 ≤ 140737488355328) := ⟨by rw [hlen2]; unfold maxLen; omega, by rw [hlen2]; omega⟩
      have hbw : base ≤ wr.heap.size := Nat.le_trans hbase hg.size
      have HV := Lib.hid (And.intro hv hr)
      clear hg hv hr hlen2
      go_wp2_with (at_builtin; refine wpList_append_lies _ (by rfl) (.tmp 17) (.tmp 23) 175 (by rfl) base 131 i0 _ 5 40 Try.underlying175 HI.out.1 HI.out.2.1 HI.out.2.2.1 HI.out.2.2.2 (by rfl) (by decide) v _ _ (by rfl) (HV.out.2.alloc _) ⟨wr.heap.size, 0, none⟩ 1 1 (mk layer rows cols ks[k]).cells (by rfl) (by rfl) (World.news_of_block (heap_alloc_new wr _)) (by intro u hu; simp [Blk.cells] at hu; rcases hu with rfl | rfl | rfl | rfl | rfl <;> rfl) (by decide) Hm.out.1 Hm.out.2 (by simp; omega) (wr.heap.size + 1) (by simp) ?_; intro g cap w1 hown hgrow hat hlt'; have hG := HG.out.trans (grew_of (x := mk layer rows cols ks[k]) hbw hB HV.out.1 HV.out.2 hown rfl hgrow); have hb1 := (HV.out.1.alloc _).kept hgrow (HV.out.1.not_row (by decide) HV.out.2); have hcB1 := hb1.cell; have hfB1 := hb1.frozen; have HO := Lib.hid hG; clear hG hb1 hown hgrow hat hlt')
      go_roundw
      case rel =>
        refine ⟨k + 1, by omega, by go_num, ?_⟩
        have := HO.out
        rw [show (l ++ (ks.take k).map (mk layer rows cols)).length = l.length + k by simp; omega] at this
        rw [List.take_succ_eq_append_getElem hlt, List.map_append, ← List.append_assoc]
        exact this
      case measure => simp [intOf]; omega
    · obtain rfl : k = ks.length := by omega
      go_wp2_with fail
      go_end0
      refine ⟨rfl, ?_⟩
      have := HG.out
      rwa [List.take_length] at this

/-- All parts, in order. -/
def layerBlks (c : C6) (i : Int) : List Blk :=
  [⟨2, i, 1, c.d, true⟩] ++ [3, 4, 5, 6].map (mk i c.d c.d) ++ [⟨7, i, 1, c.d, true⟩] ++ [8, 9].map (mk i c.x c.d) ++ [10].map (mk i c.d c.x)
def layersBlks (c : C6) (n : Nat) : List Blk := (List.range n).flatMap fun i : Nat => layerBlks c (i : Int)
def blks (c : C6) : List Blk := [1].map (mk 0 c.v c.d) ++ layersBlks c c.l.toNat ++ [⟨11, 0, 1, c.d, true⟩] ++ [12].map (mk 0 c.v c.d)

theorem values_any (A : Option Addr) (n cp : Nat) (w : World) :
    Calls Try.prog 101 #[.slice A n cp] w fun e w' => e = .returned (.func (.func 120) #[] #[.pointer (some ⟨w.heap.size, 0, none⟩)]) ∧ w.alloc (.cells #[.slice A n cp] 175) = w' := by
  go_enter Try.func101, Try.ntmps101
  go_wp2_with fail
  go_ret
  exact ⟨rfl, rfl⟩

/-- What 'blocks' hands back: the iterator, over a box that holds the parts. -/
structure Seq (base : Nat) (W : World) (q : Nat) (l : List Blk) : Prop where
  ge : base ≤ q
  ex : ∃ v, Boxed W q 175 v ∧ W.ownsRow base 131 5 v l.length (flat l)


def CfAt (W : World) (C : Nat) (c : C6) : Prop := W.heap[C]? = some (.cells #[.int .i64 c.v, .int .i64 c.d, .int .i64 c.h, .int .i64 c.l, .int .i64 c.c, .int .i64 c.x] 23 (0, 0))
theorem cf_cells {W : World} {C : Nat} {c : C6} (h : CfAt W C c) : W.cell? ⟨C, 0, none⟩ = some (.int .i64 c.v) ∧ W.cell? ⟨C, 1, none⟩ = some (.int .i64 c.d) ∧ W.cell? ⟨C, 3, none⟩ = some (.int .i64 c.l) ∧ W.cell? ⟨C, 5, none⟩ = some (.int .i64 c.x) := by
  unfold CfAt at h
  refine ⟨?_, ?_, ?_, ?_⟩ <;> (rw [cell_of_row W C _ _ _ _ h]; rfl)
theorem cf_grew {W W' : World} {B base C : Nat} {c : C6} {l : List Blk} (g : Grew W W' B base l) (h : CfAt W C c) (hne : C ≠ B) : CfAt W' C c := g.keep C _ _ (by decide) hne h
theorem Grew.alloc {W W' : World} {B base : Nat} {l : List Blk} (g : Grew W W' B base l) (hb : base ≤ W.heap.size) (o : Obj) : Grew W (W'.alloc o) B base l :=
  ⟨g.held.alloc o, g.below.alloc (Nat.le_trans hb g.size) o, fun b t cs ht hB hc => alloc_keep W' o (g.keep b t cs ht hB hc), by have := g.size; simp; omega⟩

/-- A call of 'matrix', behind the literal of its kinds. -/
theorem matrix_call (layer rows cols : Int) (ks : List Int) (n : Nat) (o : Obj) (kb : Nat) (W0 W : World) (B base C : Nat) (c : C6) (l : List Blk) (hbase : base ≤ W0.heap.size) (hB : base ≤ B) (hBl : B < W0.heap.size) (hn : n = ks.length) (hl : l.length + ks.length ≤ 100) (hne : C ≠ B) (hkb : kb = W.heap.size)
    (ho : o = .cells (ks.map (Value.int .i64)).toArray 3 (0, 0)) (hC : CfAt W0 C c) (g : Grew W0 W B base l) :
    Calls Try.prog 99 #[.int .i64 layer, .int .i64 rows, .int .i64 cols, .slice (some ⟨kb, 0, none⟩) n n, .pointer (some ⟨B, 0, none⟩)] (W.alloc o) fun e W' =>
      e = .returned (.tuple #[]) ∧ Hid (Grew W0 W' B base (l ++ ks.map (mk layer rows cols))) ∧ W'.cell? ⟨C, 0, none⟩ = some (.int .i64 c.v) ∧ W'.cell? ⟨C, 1, none⟩ = some (.int .i64 c.d) ∧ W'.cell? ⟨C, 3, none⟩ = some (.int .i64 c.l) ∧ W'.cell? ⟨C, 5, none⟩ = some (.int .i64 c.x) := by
  subst hn ho hkb
  have ga := g.alloc hbase (.cells (ks.map (Value.int .i64)).toArray 3 (0, 0))
  refine (matrix_any layer rows cols ks W.heap.size _ B base l (by have := g.size; simp; omega) hB hl (by have := g.size; omega) (heap_alloc_new W _) ga.held).mono ?_
  rintro e W' ⟨rfl, g'⟩
  have G := ga.trans g'
  exact ⟨rfl, G, cf_cells (cf_grew G hC hne)⟩

theorem vector_call (layer kind : Int) (W0 W : World) (B base C : Nat) (c : C6) (l : List Blk) (hbase : base ≤ W0.heap.size) (hB : base ≤ B) (hl : l.length ≤ 100) (hne : C ≠ B) (hC : CfAt W0 C c) (g : Grew W0 W B base l) :
    Calls Try.prog 100 #[.int .i64 layer, .int .i64 kind, .pointer (some ⟨B, 0, none⟩), .pointer (some ⟨C, 0, none⟩)] W fun e W' =>
      e = .returned (.tuple #[]) ∧ Hid (Grew W0 W' B base (l ++ [⟨kind, layer, 1, c.d, true⟩])) ∧ W'.cell? ⟨C, 0, none⟩ = some (.int .i64 c.v) ∧ W'.cell? ⟨C, 1, none⟩ = some (.int .i64 c.d) ∧ W'.cell? ⟨C, 3, none⟩ = some (.int .i64 c.l) ∧ W'.cell? ⟨C, 5, none⟩ = some (.int .i64 c.x) := by
  refine (vector_any layer kind W B C base c l (Nat.le_trans hbase g.size) hB hl (cf_grew g hC hne) g.held).mono ?_
  rintro e W' ⟨rfl, g'⟩
  have G := g.trans g'
  exact ⟨rfl, G, cf_cells (cf_grew G hC hne)⟩

theorem own_form {w : World} {base : Nat} {e : TypeId} {size : Nat} {v : Value} {n : Nat} {xs : List Value} (h : w.ownsRow base e size v n xs) : ∃ A c, v = .slice A n c := by
  rcases h.2 with ⟨rfl, rfl⟩ | ⟨g, cap, cur, rfl, _⟩
  · exact ⟨none, 0, rfl⟩
  · exact ⟨_, _, rfl⟩

theorem layersBlks_length (c : C6) (n : Nat) : (layersBlks c n).length = n * 9 := by
  induction n with
  | zero => rfl
  | succ n ih => simp only [layersBlks, List.range_succ, List.flatMap_append, List.length_append] at ih ⊢; rw [ih]; simp [layerBlks]; omega

set_option maxRecDepth 100000 in
set_option maxHeartbeats 800000 in
theorem blocks_any (c : C6) (w : World) (h0 : 1 ≤ c.l) (h4 : c.l ≤ 4) :
    Calls Try.prog 59 #[.agg #[.int .i64 c.v, .int .i64 c.d, .int .i64 c.h, .int .i64 c.l, .int .i64 c.c, .int .i64 c.x]] w fun e W' =>
      ∃ q, e = .returned (.func (.func 120) #[] #[.pointer (some ⟨q, 0, none⟩)]) ∧ Hid (Seq w.heap.size W' q (blks c)) ∧ Below w.heap.size w W' := by
  obtain ⟨w2, hw2⟩ : ∃ w2, w2 = (w.alloc (.cells #[.int .i64 c.v, .int .i64 c.d, .int .i64 c.h, .int .i64 c.l, .int .i64 c.c, .int .i64 c.x] 23)).alloc (.cells #[.slice none 0 0] 175) := ⟨_, rfl⟩
  have hC : CfAt w2 w.heap.size c := by rw [hw2]; exact (Below.heap_alloc _ _ _ (by simp)).trans (heap_alloc_new w _)
  have hH : Held w2 (w.heap.size + 1) w.heap.size [] := by
    rw [hw2]
    refine ⟨.slice none 0 0, ?_, World.ownsRow_nil _ _ _ _⟩
    have := Boxed.new (w.alloc (.cells #[.int .i64 c.v, .int .i64 c.d, .int .i64 c.h, .int .i64 c.l, .int .i64 c.c, .int .i64 c.x] 23)) 175 (.slice none 0 0)
    simpa using this
  have hsz : w2.heap.size = w.heap.size + 2 := by rw [hw2]; simp
  have hb2 : Below w.heap.size w w2 := by rw [hw2]; exact ((Below.refl _ _).alloc (Nat.le_refl _) _).alloc (by simp) _
  have HA := Lib.hid (And.intro hC (And.intro hH (And.intro hsz hb2)))
  obtain ⟨hx0, hx1, hx3, hx5⟩ := cf_cells hC
  have HW := Lib.hid hw2
  have G0 := Lib.hid (Grew.refl hH)
  rw [hw2] at hx0 hx1 hx3 hx5
  clear hw2 hC hH hsz hb2
  go_enter Try.func59, Try.ntmps59
  go_wp2_with fail
  rw [← HW.out]
  with_reducible refine Calls.mono (matrix_call 0 c.v c.d [1] 1 _ _ w2 w2 (w.heap.size + 1) w.heap.size w.heap.size c [] (by have := HA.out.2.2.1; omega) (by omega) (by have := HA.out.2.2.1; omega) (by simp) (by simp) (by omega) (by have := HA.out.2.2.1; first | omega | (simp; done) | (simp; omega)) (by simp) HA.out.1 G0.out) ?_
  rintro e W1 ⟨rfl, g1, hy0, hy1, hy3, hy5⟩
  clear hx0 hx1 hx3 hx5
  go_wp2_with fail
  go_loopw [18] (fun i wr => ∃ k : Nat, k ≤ c.l.toNat ∧ i = .int .i64 k ∧ Hid (Grew w2 wr (w.heap.size + 1) w.heap.size (([] ++ [1].map (mk 0 c.v c.d)) ++ layersBlks c k)) ∧ wr.cell? ⟨w.heap.size, 0, none⟩ = some (.int .i64 c.v) ∧ wr.cell? ⟨w.heap.size, 1, none⟩ = some (.int .i64 c.d) ∧ wr.cell? ⟨w.heap.size, 3, none⟩ = some (.int .i64 c.l) ∧ wr.cell? ⟨w.heap.size, 5, none⟩ = some (.int .i64 c.x))
    (fun i _ => c.l.toNat - (intOf i).toNat)
  case atStart => exact ⟨0, Nat.zero_le _, rfl, by simpa [layersBlks] using g1, hy0, hy1, hy3, hy5⟩
  case round =>
    obtain ⟨k, hk, rfl, g, hx0, hx1, hx3, hx5⟩ := hrel
    clear hy0 hy1 hy3 hy5
    by_cases hlt : k < c.l.toNat
    · have hlt' : (k : Int) < c.l := by omega
      go_wp2_with fail
      with_reducible refine Calls.mono (vector_call (k : Int) 2 w2 wr (w.heap.size + 1) w.heap.size w.heap.size c (([] ++ [1].map (mk 0 c.v c.d)) ++ layersBlks c k) (by have := HA.out.2.2.1; omega) (by omega) (by have := layersBlks_length c k; simp only [List.length_append, List.length_map, List.length_cons, List.length_nil] at this ⊢; omega) (by omega) HA.out.1 g.out) ?_
      rintro e V1 ⟨rfl, g2, hy0, hy1, hy3, hy5⟩
      clear hx0 hx1 hx3 hx5
      go_wp2_with fail
      with_reducible refine Calls.mono (matrix_call (k : Int) c.d c.d [3, 4, 5, 6] 4 _ _ w2 V1 (w.heap.size + 1) w.heap.size w.heap.size c _ (by have := HA.out.2.2.1; omega) (by omega) (by have := HA.out.2.2.1; omega) (by simp) (by have := layersBlks_length c k; simp only [List.length_append, List.length_map, List.length_cons, List.length_nil] at this ⊢; omega) (by omega) (by have := HA.out.2.2.1; first | omega | (simp; done) | (simp; omega)) (by simp) HA.out.1 g2.out) ?_
      rintro e V2 ⟨rfl, g3, hx0, hx1, hx3, hx5⟩
      clear hy0 hy1 hy3 hy5
      go_wp2_with fail
      with_reducible refine Calls.mono (vector_call (k : Int) 7 w2 V2 (w.heap.size + 1) w.heap.size w.heap.size c _ (by have := HA.out.2.2.1; omega) (by omega) (by have := layersBlks_length c k; simp only [List.length_append, List.length_map, List.length_cons, List.length_nil] at this ⊢; omega) (by omega) HA.out.1 g3.out) ?_
      rintro e V3 ⟨rfl, g4, hy0, hy1, hy3, hy5⟩
      clear hx0 hx1 hx3 hx5
      go_wp2_with fail
      with_reducible refine Calls.mono (matrix_call (k : Int) c.x c.d [8, 9] 2 _ _ w2 V3 (w.heap.size + 1) w.heap.size w.heap.size c _ (by have := HA.out.2.2.1; omega) (by omega) (by have := HA.out.2.2.1; omega) (by simp) (by have := layersBlks_length c k; simp only [List.length_append, List.length_map, List.length_cons, List.length_nil] at this ⊢; omega) (by omega) (by have := HA.out.2.2.1; first | omega | (simp; done) | (simp; omega)) (by simp) HA.out.1 g4.out) ?_
      rintro e V4 ⟨rfl, g5, hx0, hx1, hx3, hx5⟩
      clear hy0 hy1 hy3 hy5
      go_wp2_with fail
      with_reducible refine Calls.mono (matrix_call (k : Int) c.d c.x [10] 1 _ _ w2 V4 (w.heap.size + 1) w.heap.size w.heap.size c _ (by have := HA.out.2.2.1; omega) (by omega) (by have := HA.out.2.2.1; omega) (by simp) (by have := layersBlks_length c k; simp only [List.length_append, List.length_map, List.length_cons, List.length_nil] at this ⊢; omega) (by omega) (by have := HA.out.2.2.1; first | omega | (simp; done) | (simp; omega)) (by simp) HA.out.1 g5.out) ?_
      rintro e V5 ⟨rfl, g6, hy0, hy1, hy3, hy5⟩
      clear hx0 hx1 hx3 hx5
      go_wp2_with fail
      go_roundw
      case rel =>
        refine ⟨k + 1, by omega, by go_num, ?_, hy0, hy1, hy3, hy5⟩
        have := g6.out
        simp only [layersBlks, List.range_succ, List.flatMap_append, List.flatMap_cons, List.flatMap_nil, List.append_nil, layerBlks] at this ⊢
        refine Lib.hid ?_
        simpa only [List.append_assoc] using this
      case measure => simp [intOf]; omega
    · obtain rfl : k = c.l.toNat := by omega
      have hge : ((c.l.toNat : Nat) : Int) = c.l := by omega
      have hnl : ¬ ((c.l.toNat : Nat) : Int) < c.l := by omega
      have HE := Lib.hid hge
      clear hge hlt
      go_wp2_with fail
      with_reducible refine Calls.mono (vector_call 0 11 w2 wr (w.heap.size + 1) w.heap.size w.heap.size c _ (by have := HA.out.2.2.1; omega) (by omega) (by have := layersBlks_length c c.l.toNat; simp only [List.length_append, List.length_map, List.length_cons, List.length_nil] at this ⊢; omega) (by omega) HA.out.1 g.out) ?_
      rintro e V1 ⟨rfl, g2, hy0, hy1, hy3, hy5⟩
      clear hx0 hx1 hx3 hx5
      go_wp2_with fail
      with_reducible refine Calls.mono (matrix_call 0 c.v c.d [12] 1 _ _ w2 V1 (w.heap.size + 1) w.heap.size w.heap.size c _ (by have := HA.out.2.2.1; omega) (by omega) (by have := HA.out.2.2.1; omega) (by simp) (by have := layersBlks_length c c.l.toNat; simp only [List.length_append, List.length_map, List.length_cons, List.length_nil] at this ⊢; omega) (by omega) (by have := HA.out.2.2.1; first | omega | (simp; done) | (simp; omega)) (by simp) HA.out.1 g2.out) ?_
      rintro e V2 ⟨rfl, g3, hx0, hx1, hx3, hx5⟩
      clear hy0 hy1 hy3 hy5
      obtain ⟨L, hL, g3⟩ : ∃ L, L = blks c ∧ Hid (Grew w2 V2 (w.heap.size + 1) w.heap.size L) := ⟨blks c, rfl, g3⟩
      have HL := Lib.hid hL
      clear hL
      obtain ⟨v, hv, hr⟩ := g3.out.held.ex
      have hvc := hv.cell
      obtain ⟨A, cp, rfl⟩ := own_form hr
      have HV := Lib.hid (And.intro hv hr)
      clear hv hr
      go_wp2_with fail
      refine (values_any _ _ _ _).mono ?_
      rintro e W' ⟨rfl, rfl⟩
      go_wp2_with fail
      go_ret
      have hz := g3.out.size
      have hB := g3.out.below
      refine ⟨_, rfl, Lib.hid ⟨by have := HA.out.2.2.1; omega, _, Boxed.new _ _ _, ?_⟩, ?_⟩
      · rw [← HL.out]
        exact HV.out.2.alloc _
      · exact (HA.out.2.2.2.trans hB).alloc (by have := HA.out.2.2.1; omega) _
end Go.Proofs.Ytfhaebaegkpkhaa.Cfg
