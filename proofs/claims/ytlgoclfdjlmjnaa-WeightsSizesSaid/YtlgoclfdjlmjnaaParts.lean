import Derived.Test.YtlgoclfdjlmjnaaRefW
namespace Go.Proofs.Ytlgoclfdjlmjnaa.Cfg
open Go.RowKit Go.Shelf
attribute [local go_sem ↓] Kit.execOp_call_slot
attribute [local go_sem] Kit.callSlot_func

/-- A part, as the document's answer has it. -/
def rcells (b : Blk) : List Value := [.int .i64 b.kind, .int .i64 b.layer, .int .i64 b.rows, .int .i64 b.cols, .bool (!b.vec)]
def flatR (l : List Blk) : List Value := l.flatMap rcells
theorem rcells_one (b : Blk) : ∀ u ∈ rcells b, u.oneCell' = true := by
  intro u hu; simp [rcells] at hu; rcases hu with rfl | rfl | rfl | rfl | rfl <;> rfl
theorem flatR_length (l : List Blk) : (flatR l).length = l.length * 5 := by
  induction l with
  | nil => rfl
  | cons b l ih => simp [flatR, rcells] at ih ⊢; omega
theorem infoR : (Try.prog.info? 64).map (fun i => (i.zero, i.size, i.bytes)) = some (some (.agg #[.int .i64 0, .int .i64 0, .int .i64 0, .int .i64 0, .bool false]), 5, 40) := by kernel_rfl

structure PS (w W : World) (c : C6) (v : Value) (n : Nat) (L : List Blk) : Prop where
  own : W.ownsRow w.heap.size 64 5 v n (flatR L)
  len : n = L.length
  few : n ≤ 60
  cfg : W.heap[w.heap.size]? = some (.cells #[.int .i64 c.v, .int .i64 c.d, .int .i64 c.h, .int .i64 c.l, .int .i64 c.c, .int .i64 c.x] 27 (0, 0))
  below : Below w.heap.size w W
theorem PS.b1 {w W : World} {c : C6} {v : Value} {n : Nat} {L : List Blk} (h : PS w W c v n L) : n + 1 ≤ maxLen := by have := h.few; unfold maxLen; omega
theorem PS.b2 {w W : World} {c : C6} {v : Value} {n : Nat} {L : List Blk} (h : PS w W c v n L) : (n + 1) * 40 ≤ 140737488355328 := by have := h.few; omega
theorem PS.cfg0 {w W : World} {c : C6} {v : Value} {n : Nat} {L : List Blk} (h : PS w W c v n L) : W.cell? ⟨w.heap.size, 3, none⟩ = some (.int .i64 c.l) := by rw [cell_of_row W _ 3 _ _ _ h.cfg]; rfl
theorem PS.app {w W w1 : World} {c : C6} {v v' : Value} {n m : Nat} {L : List Blk} {tmp : Obj} (h : PS w W c v n L) (x : Blk) (hown : w1.ownsRow w.heap.size 64 5 v' m (flatR L ++ rcells x)) (hg : (W.alloc tmp).grownBy w1 v.ownBlock) (hm : m = n + 1) (hf : n < 60 := by omega) : PS w w1 c v' m (L ++ [x]) := by
  refine ⟨by simpa [flatR] using hown, by rw [hm, h.len]; simp, by omega, ?_, ?_⟩
  · refine (hg.block _ ?_ ?_).trans (alloc_keep W tmp h.cfg)
    · have := (Array.getElem?_eq_some_iff.1 h.cfg).1
      simp; omega
    · rcases h.own.2 with ⟨rfl, _⟩ | ⟨g', cap', cur, rfl, _, hh, _⟩
      · simp [Value.ownBlock]
      · intro e
        have e : w.heap.size = g' := by simpa [Value.ownBlock] using e
        subst e
        have := h.cfg
        rw [this] at hh
        simp at hh
  · exact (h.below.alloc h.below.size tmp).grown hg (by have := h.below.size; simp; omega) (fun k e => (h.own.lt k e).1)

def ri (i : Int) (c : C6) : List Blk := layerBlks c i
theorem PS.cast {w W : World} {c : C6} {v : Value} {n : Nat} {L L' : List Blk} (h : PS w W c v n L) (e : L = L') : PS w W c v n L' := e ▸ h

set_option maxRecDepth 100000 in
set_option maxHeartbeats 4000000 in
theorem parts_any (c : C6) (w : World) (h0 : 1 ≤ c.l) (h4 : c.l ≤ 4) :
    Calls Try.prog 33 #[.agg #[.int .i64 c.v, .int .i64 c.d, .int .i64 c.h, .int .i64 c.l, .int .i64 c.c, .int .i64 c.x]] w fun e W' =>
      ∃ v n, e = .returned v ∧ Hid (PS w W' c v n (blks c)) := by
  obtain ⟨i0, hi, hz0, hz1, hz2⟩ := info_parts infoR
  have HI := Lib.hid (And.intro hi (And.intro hz0 (And.intro hz1 hz2)))
  obtain ⟨w2, hw2⟩ : ∃ w2, w2 = (w.alloc (.cells #[.int .i64 c.v, .int .i64 c.d, .int .i64 c.h, .int .i64 c.l, .int .i64 c.c, .int .i64 c.x] 27)).alloc (.cells #[.int .i64 1, .int .i64 0, .int .i64 c.v, .int .i64 c.d, .bool true] 64) := ⟨_, rfl⟩
  have hP : PS w w2 c (.slice (some ⟨w.heap.size + 1, 0, none⟩) 1 1) 1 [⟨1, 0, c.v, c.d, false⟩] := by
    rw [hw2]
    refine ⟨?_, rfl, by omega, (Below.heap_alloc _ _ _ (by simp)).trans (heap_alloc_new _ _), ((Below.refl _ _).alloc (Nat.le_refl _) _).alloc (by simp) _⟩
    have := World.ownsRow_lit (e := 64) (size := 5) (base := w.heap.size) (w.alloc (.cells #[.int .i64 c.v, .int .i64 c.d, .int .i64 c.h, .int .i64 c.l, .int .i64 c.c, .int .i64 c.x] 27)) #[.int .i64 1, .int .i64 0, .int .i64 c.v, .int .i64 c.d, .bool true] 1 (by simp) (by unfold maxLen; omega) (by rfl)
    simpa [flatR, rcells] using this
  have hx := hP.cfg0
  have HP := Lib.hid hP
  have HW := Lib.hid hw2
  rw [hw2] at hx
  clear hw2 hP hi hz0 hz1 hz2
  go_enter Try.func33, Try.ntmps33
  go_wp2_with fail
  rw [← HW.out]
  rw [← HW.out] at hx
  go_loopw [6, 7] (fun v i wr => ∃ (k n g cap : Nat), k ≤ c.l.toNat ∧ i = .int .i64 k ∧ v = .slice (some ⟨g, 0, none⟩) n cap ∧ Hid (PS w wr c (.slice (some ⟨g, 0, none⟩) n cap) n ([⟨1, 0, c.v, c.d, false⟩] ++ layersBlks c k)))
    (fun _ i _ => c.l.toNat - (intOf i).toNat)
  case atStart => exact ⟨0, 1, _, _, Nat.zero_le _, rfl, rfl, Lib.hid (HP.out.cast (by simp [layersBlks]))⟩
  case round =>
    obtain ⟨k, n, g, cap, hk, rfl, rfl, Q⟩ := hrel
    have hxw := Q.out.cfg0
    have hn : n = 1 + k * 9 := by have := Q.out.len; rw [this]; simp [layersBlks_length]; omega
    have hn2 : n + 9 ≤ 60 ∨ c.l.toNat ≤ k := by omega
    have HN := Lib.hid hn
    clear hn hx
    by_cases hlt : k < c.l.toNat
    · have hlt' : (k : Int) < c.l := by omega
      have hn3 : n + 9 ≤ 60 := by omega
      clear hn2
      go_wp2_with (at_builtin; refine wpList_append_lies _ (by rfl) (.tmp 25) (.tmp 29) 79 (by rfl) w.heap.size 64 i0 _ 5 40 Try.underlying79 HI.out.1 HI.out.2.1 HI.out.2.2.1 HI.out.2.2.2 (by rfl) (by decide) _ n (flatR _) (by rfl) (Q.out.own.alloc _) ⟨wr.heap.size, 0, none⟩ 1 1 (rcells ⟨2, (k : Int), 1, c.d, true⟩) (by rfl) (by rfl) (World.news_of_block (heap_alloc_new wr _)) (rcells_one _) (by decide) (Q.out.b1) (Q.out.b2) (by have := Q.out.below.size; simp; omega) (wr.heap.size + 1) (by simp) ?_; intro g1 cap1 W1 hown hgrow hat hlt'; have Q1 := Lib.hid (Q.out.app ⟨2, (k : Int), 1, c.d, true⟩ hown hgrow (by rfl)); have hx1 := Q1.out.cfg0; clear hown hgrow hat hlt')
      go_loopw [6, 8] (fun v i wi => ∃ (j m g' cap' : Nat), j ≤ 4 ∧ i = .int .i64 (3 + (j : Int)) ∧ v = .slice (some ⟨g', 0, none⟩) m cap' ∧ m = n + 1 + j ∧ Hid (PS w wi c (.slice (some ⟨g', 0, none⟩) m cap') m (([⟨1, 0, c.v, c.d, false⟩] ++ layersBlks c k) ++ [⟨2, (k : Int), 1, c.d, true⟩] ++ ([3, 4, 5, 6].take j).map (mk k c.d c.d))))
        (fun _ i _ => 7 - (intOf i).toNat)
      case atStart => exact ⟨0, n + 1, _, _, by omega, rfl, rfl, rfl, Lib.hid (Q1.out.cast (by simp))⟩
      case round =>
        obtain ⟨j, m, g', cap', hj, rfl, rfl, hm, R⟩ := hrel
        have HM := Lib.hid hm
        have hm60 : m < 60 := by omega
        clear hm
        by_cases hj4 : j < 4
        · have hj6 : (3 : Int) + (j : Int) ≤ 6 := by omega
          go_wp2_with (at_builtin; refine wpList_append_lies _ (by rfl) (.tmp 35) (.tmp 41) 79 (by rfl) w.heap.size 64 i0 _ 5 40 Try.underlying79 HI.out.1 HI.out.2.1 HI.out.2.2.1 HI.out.2.2.2 (by rfl) (by decide) _ m (flatR _) (by rfl) (R.out.own.alloc _) ⟨wr.heap.size, 0, none⟩ 1 1 (rcells (mk k c.d c.d (3 + (j : Int)))) (by rfl) (by rfl) (World.news_of_block (heap_alloc_new wr _)) (rcells_one _) (by decide) (R.out.b1) (R.out.b2) (by have := R.out.below.size; simp; omega) (wr.heap.size + 1) (by simp) ?_; intro g2 cap2 W2 hown hgrow hat hlt'; have Q2 := Lib.hid (R.out.app (mk k c.d c.d (3 + (j : Int))) hown hgrow (by rfl)); have hx2 := Q2.out.cfg0; clear hown hgrow hat hlt')
          go_roundw
          case rel =>
            refine ⟨j + 1, m + 1, _, _, by omega, by go_num, rfl, by have := HM.out; omega, Lib.hid (Q2.out.cast ?_)⟩
            have : j = 0 ∨ j = 1 ∨ j = 2 ∨ j = 3 := by omega
            rcases this with rfl | rfl | rfl | rfl <;> simp [mk]
          case measure => (simp [intOf] <;> omega)
        · obtain rfl : j = 4 := by omega
          have R1 := R
          clear R
          have hm3 : m + 4 ≤ 60 := by have := HM.out; omega
          go_wp2_with (first | (at_builtin; refine wpList_append_lies _ (by rfl) (.tmp 43) (.tmp 47) 79 (by rfl) w.heap.size 64 i0 _ 5 40 Try.underlying79 HI.out.1 HI.out.2.1 HI.out.2.2.1 HI.out.2.2.2 (by rfl) (by decide) _ m (flatR _) (by rfl) (R1.out.own.alloc _) ⟨wr.heap.size, 0, none⟩ 1 1 (rcells ⟨7, (k : Int), 1, c.d, true⟩) (by rfl) (by rfl) (World.news_of_block (heap_alloc_new wr _)) (rcells_one _) (by decide) (R1.out.b1) (R1.out.b2) (by have := R1.out.below.size; simp; omega) (wr.heap.size + 1) (by simp) ?_; intro g3 cap3 W3 hown hgrow hat hlt'; have Q3 := Lib.hid (R1.out.app ⟨7, (k : Int), 1, c.d, true⟩ hown hgrow (by rfl)); have hx3 := Q3.out.cfg0; clear hown hgrow hat hlt') | (at_builtin; refine wpList_append_lies _ (by rfl) (.tmp 49) (.tmp 54) 79 (by rfl) w.heap.size 64 i0 _ 5 40 Try.underlying79 HI.out.1 HI.out.2.1 HI.out.2.2.1 HI.out.2.2.2 (by rfl) (by decide) _ (m + 1) (flatR _) (by rfl) (Q3.out.own.alloc _) ⟨W3.heap.size, 0, none⟩ 1 1 (rcells ⟨8, (k : Int), c.x, c.d, false⟩) (by rfl) (by rfl) (World.news_of_block (heap_alloc_new W3 _)) (rcells_one _) (by decide) (Q3.out.b1) (Q3.out.b2) (by have := Q3.out.below.size; simp; omega) (W3.heap.size + 1) (by simp) ?_; intro g4 cap4 W4 hown hgrow hat hlt'; have Q4 := Lib.hid (Q3.out.app ⟨8, (k : Int), c.x, c.d, false⟩ hown hgrow (by rfl)); have hx4 := Q4.out.cfg0; clear hown hgrow hat hlt') | (at_builtin; refine wpList_append_lies _ (by rfl) (.tmp 56) (.tmp 61) 79 (by rfl) w.heap.size 64 i0 _ 5 40 Try.underlying79 HI.out.1 HI.out.2.1 HI.out.2.2.1 HI.out.2.2.2 (by rfl) (by decide) _ (m + 1 + 1) (flatR _) (by rfl) (Q4.out.own.alloc _) ⟨W4.heap.size, 0, none⟩ 1 1 (rcells ⟨9, (k : Int), c.x, c.d, false⟩) (by rfl) (by rfl) (World.news_of_block (heap_alloc_new W4 _)) (rcells_one _) (by decide) (Q4.out.b1) (Q4.out.b2) (by have := Q4.out.below.size; simp; omega) (W4.heap.size + 1) (by simp) ?_; intro g5 cap5 W5 hown hgrow hat hlt'; have Q5 := Lib.hid (Q4.out.app ⟨9, (k : Int), c.x, c.d, false⟩ hown hgrow (by rfl)); have hx5 := Q5.out.cfg0; clear hown hgrow hat hlt') | (at_builtin; refine wpList_append_lies _ (by rfl) (.tmp 63) (.tmp 68) 79 (by rfl) w.heap.size 64 i0 _ 5 40 Try.underlying79 HI.out.1 HI.out.2.1 HI.out.2.2.1 HI.out.2.2.2 (by rfl) (by decide) _ (m + 1 + 1 + 1) (flatR _) (by rfl) (Q5.out.own.alloc _) ⟨W5.heap.size, 0, none⟩ 1 1 (rcells ⟨10, (k : Int), c.d, c.x, false⟩) (by rfl) (by rfl) (World.news_of_block (heap_alloc_new W5 _)) (rcells_one _) (by decide) (Q5.out.b1) (Q5.out.b2) (by have := Q5.out.below.size; simp; omega) (W5.heap.size + 1) (by simp) ?_; intro g6 cap6 W6 hown hgrow hat hlt'; have Q6 := Lib.hid (Q5.out.app ⟨10, (k : Int), c.d, c.x, false⟩ hown hgrow (by rfl)); have hx6 := Q6.out.cfg0; clear hown hgrow hat hlt'))
          go_roundw
          case rel =>
            refine ⟨k + 1, m + 1 + 1 + 1 + 1, _, _, by omega, by go_num, rfl, Lib.hid (Q6.out.cast ?_)⟩
            simp only [layersBlks, List.range_succ, List.flatMap_append, List.flatMap_cons, List.flatMap_nil, List.append_nil, layerBlks]
            simp [mk]
          case measure => (simp [intOf] <;> omega)
    · obtain rfl : k = c.l.toNat := by omega
      have hnl : ¬ ((c.l.toNat : Nat) : Int) < c.l := by omega
      have hn4 : n + 2 ≤ 60 := by have := HN.out; omega
      clear hlt hn2
      go_wp2_with (first | (at_builtin; refine wpList_append_lies _ (by rfl) (.tmp 70) (.tmp 73) 79 (by rfl) w.heap.size 64 i0 _ 5 40 Try.underlying79 HI.out.1 HI.out.2.1 HI.out.2.2.1 HI.out.2.2.2 (by rfl) (by decide) _ n (flatR _) (by rfl) (Q.out.own.alloc _) ⟨wr.heap.size, 0, none⟩ 1 1 (rcells ⟨11, 0, 1, c.d, true⟩) (by rfl) (by rfl) (World.news_of_block (heap_alloc_new wr _)) (rcells_one _) (by decide) (Q.out.b1) (Q.out.b2) (by have := Q.out.below.size; simp; omega) (wr.heap.size + 1) (by simp) ?_; intro g3 cap3 W3 hown hgrow hat hlt'; have Q3 := Lib.hid (Q.out.app ⟨11, 0, 1, c.d, true⟩ hown hgrow (by rfl)); have hx3 := Q3.out.cfg0; clear hown hgrow hat hlt') | (at_builtin; refine wpList_append_lies _ (by rfl) (.tmp 75) (.tmp 79) 79 (by rfl) w.heap.size 64 i0 _ 5 40 Try.underlying79 HI.out.1 HI.out.2.1 HI.out.2.2.1 HI.out.2.2.2 (by rfl) (by decide) _ (n + 1) (flatR _) (by rfl) (Q3.out.own.alloc _) ⟨W3.heap.size, 0, none⟩ 1 1 (rcells ⟨12, 0, c.v, c.d, false⟩) (by rfl) (by rfl) (World.news_of_block (heap_alloc_new W3 _)) (rcells_one _) (by decide) (Q3.out.b1) (Q3.out.b2) (by have := Q3.out.below.size; simp; omega) (W3.heap.size + 1) (by simp) ?_; intro g4 cap4 W4 hown hgrow hat hlt'; have Q4 := Lib.hid (Q3.out.app ⟨12, 0, c.v, c.d, false⟩ hown hgrow (by rfl)); have hx4 := Q4.out.cfg0; clear hown hgrow hat hlt'))
      go_ret
      refine ⟨_, rfl, _, Lib.hid (Q4.out.cast ?_)⟩
      simp [blks, mk]
end Go.Proofs.Ytlgoclfdjlmjnaa.Cfg
