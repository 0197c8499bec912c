/- merkle.Tree: New, Len, check, Get, Set, Prove. · merkle.Tree: Len, check, Get, Prove, Root; Set. · merkle.Tree: Set. -/
import Derived.Test.YtplcjgpmainbnaaDoorMkS
import Derived.Test.YtplcjgpmainbnaaDoorMkX
set_option linter.unusedVariables false
set_option linter.unusedSimpArgs false
namespace Go.Proofs.YtplcjgpmainbnaaDoor.MkW
open Go.RowKit OwnS ShaW RevL QTail
attribute [local go_sem ↓] Kit.execOp_call_slot
attribute [local go_sem] Kit.callSlot_func
theorem infoRow : ElemInfo Tryd.prog 28 (.slice none 0 0) 1 24 := elemInfo (by kernel_rfl) rfl rfl
/-- A tree in memory: its block, its leaves' slice, its digests' slice, what they hold. -/
/- T: what holds of the blocks that the leaves' bytes lie in -/
structure TreeIn (w : World) (base q : Nat) (lv v : Value) (ls : List (List Nat)) (T : Nat → Prop) : Prop where
  blk : w.heap[q]? = some (.cells #[lv, v] 80 (0, 0))
  rows : ∃ hs, Owns w base 1 lv ls.length hs ∧ ∀ (i : Nat) (l : List Nat), ls[i]? = some l → ∃ h, hs[i]? = some h ∧ Sees w 1 h l.length (bytesV l) ∧ ∀ b, h.ownBlock = some b → base ≤ b ∧ b < w.heap.size ∧ b ≠ q ∧ lv.ownBlock ≠ some b ∧ v.ownBlock ≠ some b ∧ T b
  digs : OwnD w base v (ls.map leafH)
  byte : ∀ l ∈ ls, ∀ x ∈ l, x < 256
  new : base ≤ q
  apart : lv.ownBlock ≠ some q ∧ v.ownBlock ≠ some q ∧ ∀ b, lv.ownBlock = some b → v.ownBlock ≠ some b
abbrev TreeAt (w : World) (base q : Nat) (lv v : Value) (ls : List (List Nat)) : Prop := TreeIn w base q lv v ls (fun _ => True)
theorem TreeIn.keep {w w' : World} {base q : Nat} {lv v : Value} {ls : List (List Nat)} {T : Nat → Prop} (h : TreeIn w base q lv v ls T) (hb : Below w.heap.size w w') : TreeIn w' base q lv v ls T := by
  obtain ⟨hs, h1, h2⟩ := h.rows
  refine ⟨(hb.block q (Array.getElem?_eq_some_iff.1 h.blk).1).trans h.blk, ⟨hs, h1.same (fun b e => hb.block b (h1.lt b e).2) hb.size, fun i l hl => ?_⟩, ⟨h.digs.own.same (fun b e => hb.block b (h.digs.own.lt b e).2) hb.size, h.digs.dig⟩, h.byte, h.new, h.apart⟩
  obtain ⟨x, h3, h4, h5⟩ := h2 i l hl
  exact ⟨x, h3, h4.new hb, fun b e => ⟨(h5 b e).1, Nat.lt_of_lt_of_le (h5 b e).2.1 hb.size, (h5 b e).2.2⟩⟩
/-- Between New's rounds. -/
def NewI (q : Nat) (v : Value) (ls : List (List Nat)) (w2 : World) (i : Nat) (lv : Value) (wr : World) : Prop :=
  wr.heap[q]? = some (.cells #[lv, v] 80 (0, 0)) ∧ Below q w2 wr ∧ ∃ hs, Owns wr (q + 1) 1 lv i hs ∧ ∀ (j : Nat) (l : List Nat), (ls.take i)[j]? = some l → ∃ h, hs[j]? = some h ∧ Sees wr 1 h l.length (bytesV l) ∧ ∀ b, h.ownBlock = some b → q + 1 ≤ b ∧ b < wr.heap.size ∧ lv.ownBlock ≠ some b
def NewPost (W : World) (ls : List (List Nat)) (e : Ending) (w' : World) : Prop := ∃ q lv v, e = .returned (.pointer (some ⟨q, 0, none⟩)) ∧ TreeAt w' W.heap.size q lv v ls ∧ Below W.heap.size W w'
theorem newI_step {q i : Nat} {v : Value} {ls : List (List Nat)} {w2 wr w4 w5 : World} {A3 A4 A5 : Option Addr} {c3 c4 c5 : Nat} {l : List Nat} {hs0 : List Value} {o : Obj}
    (h1 : wr.heap[q]? = some (.cells #[.slice A3 i c3, v] 80 (0, 0))) (h2 : Below q w2 wr) (hq2 : q ≤ w2.heap.size) (hi : i ≤ ls.length) (hl : ls[i]? = some l)
    (ho0 : Owns wr (q + 1) 1 (.slice A3 i c3) i hs0) (hr0 : ∀ (j : Nat) (l : List Nat), (ls.take i)[j]? = some l → ∃ h, hs0[j]? = some h ∧ Sees wr 1 h l.length (bytesV l) ∧ ∀ b, h.ownBlock = some b → q + 1 ≤ b ∧ b < wr.heap.size ∧ (Value.slice A3 i c3).ownBlock ≠ some b)
    (ho4 : Owns w4 wr.drew.heap.size 1 (.slice A4 l.length c4) l.length (bytesV l)) (hs4 : wr.heap.size ≤ w4.heap.size) (hb4 : Below wr.heap.size wr (w4.alloc o))
    (ho5 : Owns w5 (q + 1) 1 (.slice A5 (i + 1) c5) (i + 1) (hs0 ++ [.slice A4 l.length c4])) (hg5 : (w4.alloc o).grownBy w5 (Value.slice A3 i c3).ownBlock)
    (hbl5 : (Value.slice A5 (i + 1) c5).ownBlock = (Value.slice A3 i c3).ownBlock ∨ (Value.slice A5 (i + 1) c5).ownBlock = some (w4.alloc o).heap.size)
    (h5b : ∀ k, k < wr.heap.size → (Value.slice A3 i c3).ownBlock ≠ some k → w5.heap[k]? = wr.heap[k]?) :
    NewI q v ls w2 (i + 1) (.slice A5 (i + 1) c5) (w5.setCell ⟨q, 0, none⟩ (.slice A5 (i + 1) c5)) := by
  have hqs : q < wr.heap.size := (Array.getElem?_eq_some_iff.1 h1).1
  have hnq : (Value.slice A3 i c3).ownBlock ≠ some q := fun e => by have := (ho0.lt q e).1; omega
  have h5q := (h5b q hqs hnq).trans h1
  have hs5 : w4.heap.size + 1 ≤ w5.heap.size := by have := hg5.size; simpa using this
  refine ⟨by simpa using heap_setCell_same w5 q 0 _ _ (.slice A5 (i + 1) c5) h5q, ?_, hs0 ++ [.slice A4 l.length c4], ho5.setCell (fun b hb => by have := (ho5.lt b hb).1; simp; omega) _, ?_⟩
  · exact Below.setCell (p := ⟨q, 0, none⟩) ((below_chain' h2 hb4 hq2).grown hg5 (by simp; omega) (fun k e => by have := (ho0.lt k e).1; omega)) (Nat.le_refl _) _
  · intro j l' hj
    obtain ⟨hjt, -⟩ := List.getElem?_eq_some_iff.1 hj
    rw [List.length_take] at hjt
    have hl0 : hs0.length = i := by have := ho0.1; omega
    rw [List.getElem?_take, if_pos (by omega)] at hj
    by_cases hji : j < i
    · obtain ⟨h, e1, e2, e3⟩ := hr0 j l' (by rw [List.getElem?_take, if_pos hji]; exact hj)
      refine ⟨h, by rw [List.getElem?_append_left (by omega)]; exact e1, e2.same (fun b eb _ => ?_), fun b eb => ?_⟩
      · obtain ⟨k1, k2, k3⟩ := e3 b eb
        exact (Below.heap_setCell _ _ _ _ (by simp; omega)).trans (h5b b k2 k3)
      · obtain ⟨k1, k2, k3⟩ := e3 b eb
        refine ⟨k1, by simp [World.setCell]; omega, fun e => ?_⟩
        rcases hbl5 with h6 | h6
        · rw [h6] at e; exact k3 e
        · rw [h6] at e; injection e with e; simp at e; omega
    · obtain rfl : j = i := by omega
      rw [hl] at hj
      injection hj with hj
      subst hj
      have hz : wr.drew.heap.size = wr.heap.size := rfl
      have k4 : ∀ b, (Value.slice A4 l.length c4).ownBlock = some b → wr.heap.size ≤ b ∧ b < w4.heap.size := fun b eb => by have := ho4.lt b eb; rw [hz] at this; exact this
      have k3 : ∀ b, (Value.slice A4 l.length c4).ownBlock = some b → (Value.slice A3 j c3).ownBlock ≠ some b := fun b eb e => by have := (ho0.lt b e).2; have := (k4 b eb).1; omega
      refine ⟨_, by rw [List.getElem?_append_right (by omega), hl0, Nat.sub_self]; rfl, ho4.sees.same (fun b eb _ => ?_), fun b eb => ?_⟩
      · have := k4 b eb
        exact (Below.heap_setCell _ _ _ _ (by simp; omega)).trans ((hg5.block b (by simp; omega) (fun e => k3 b eb e.symm)).trans (Below.heap_alloc _ _ _ this.2))
      · have := k4 b eb
        refine ⟨by omega, by simp [World.setCell]; omega, fun e => ?_⟩
        rcases hbl5 with h6 | h6
        · rw [h6] at e; exact k3 b eb e
        · rw [h6] at e; injection e with e; simp at e; omega
set_option maxRecDepth 100000 in
set_option maxHeartbeats 2000000 in
theorem New_any (W : World) (rv : Value) (hs : List Value) (ls : List (List Nat)) (hG : Glob W) (h : RowsAt W rv hs ls) (hn : ls.length ≤ 1000000) (hl : ∀ l ∈ ls, l.length ≤ 1000000) : Calls Tryd.prog 26 #[rv] W (NewPost W ls) := by
  obtain ⟨A, c, rfl, -, -⟩ := h.sees.form
  have hc := digests_any W _ hs ls hG h hn hl
  have hll : (ls.map leafH).length = ls.length := List.length_map _
  have H := Lib.hid (And.intro hc (And.intro h (And.intro hl hll)))
  clear hc h hl hll hG
  go_enter Tryd.func26, Tryd.ntmps26
  go_wp2_with (first | (go_at_call 36; (with_reducible refine Calls.mono H.out.1 ?_); rintro e w2 ⟨A2, c2, rfl, ho2, hb2⟩; have H2 := Lib.hid (And.intro ho2 hb2); clear ho2 hb2))
  obtain ⟨v, hv⟩ : ∃ v, v = Value.slice A2 ls.length c2 := ⟨_, rfl⟩
  obtain ⟨x, hx⟩ : ∃ x, x = w2.alloc (.cells #[.slice none 0 0, v] 80) := ⟨_, rfl⟩
  obtain ⟨q, hq⟩ : ∃ q, q = w2.heap.size := ⟨_, rfl⟩
  rw [← hv, ← hx, ← hq]
  have hx0 : x.heap[q]? = some (.cells #[.slice none 0 0, v] 80 (0, 0)) := by rw [hx, hq]; exact heap_alloc_new _ _
  have hxb : Below q w2 x := by rw [hx, hq]; exact (Below.refl _ _).alloc (Nat.le_refl _) _
  have HX := Lib.hid (And.intro hx0 (And.intro hxb (And.intro hv (And.intro hq (by rw [hx, hq]; simp : x.heap.size = q + 1)))))
  clear hx0 hxb hv hx hq
  go_loopw [12] (fun vi wr => ∃ (i : Nat) (A3 : Option Addr) (c3 : Nat), i ≤ ls.length ∧ vi = .int .i64 i ∧ Hid (NewI q v ls w2 i (.slice A3 i c3) wr)) (fun vi _ => ls.length - (intOf vi).toNat)
  case atStart => exact ⟨0, none, 0, Nat.zero_le _, rfl, HX.out.1, HX.out.2.1, [], Owns.nil _ _ _, fun j l hj => by simp at hj⟩
  case round =>
    obtain ⟨i, A3, c3, hi, rfl, hI⟩ := hrel
    by_cases hlt : i < ls.length
    · obtain ⟨l, g, o, cap, A', c', hl', hv', hc, hse⟩ := (H.out.2.1.new (below_chain' H2.out.2 (hI.out.2.1.mono (by have := HX.out.2.2.2.1; omega)))).cell hlt
      injection hv' with e1 e2 e3
      subst e1 e3
      clear e2
      have e0 : wr.cell? ⟨q, 0, none⟩ = some (.slice A3 i c3) := by rw [cell_of_row wr q 0 _ _ _ hI.out.1]; rfl
      have hcl := clone_bytes wr.drew _ l.length (bytesV l) (hse.new ⟨rfl, rfl, rfl, Nat.le_refl _, fun _ _ => rfl⟩) (bytesV_one l) (by have := H.out.2.2.1 l (List.mem_of_getElem? hl'); omega)
      have HL := Lib.hid (And.intro hl' (And.intro hse (And.intro hcl e0)))
      clear hl' hse hcl e0
      go_wp2_with fail
      refine wp_region_mixS (fun w' => w'.cell? ⟨q, 0, none⟩ = some (.slice A3 i c3)) (fun k => k == 4) [0, 1, 2, 3, 4, 5, 6, 7, 8, 9, 10, 11] (by kernel_rfl) rfl (by kernel_rfl) (by kernel_rfl) (by kernel_rfl) HL.out.2.2.2 ?_
      intro I hNI F hF
      have f0 : ∀ j : I, (F j).cell? ⟨q, 0, none⟩ = some (.slice A3 i c3) := hF
      clear hF
      simp only [pairOps, List.filterMap_cons, List.filterMap_nil, List.getElem?_cons_succ, List.getElem?_cons_zero, Option.map_some]
      repeat (first | (refine mixN_free rfl rfl ?_; go_big_quiet_step (fail); refine wpQuiet_nil ?_) | (refine mixN_need rfl rfl HL.out.2.2.2 ?_; go_big_quiet_step (fail); refine wpQuiet_nil ?_))
      refine mixN_step rfl ?_
      go_wp2_with (go_at_call 45; (with_reducible refine Calls.mono HL.out.2.2.1 ?_); rintro e w4 ⟨A4, c4, rfl, ho4, hb4⟩)
      have hcq : ∀ p u, wr.cell? p = some u → w4.cell? p = some u := fun p u hp => (hb4.cell (block_lt_of_cell hp)).trans hp
      have hcq2 : ∀ p u, wr.cell? p = some u → (w4.alloc (.cells #[.slice A4 l.length c4] 28)).cell? p = some u := fun p u hp => (World.cell?_alloc_lt _ _ _ (block_lt_of_cell (hcq p u hp))).trans (hcq p u hp)
      refine ⟨rfl, fun _ => hcq _ _ HL.out.2.2.2, ?_⟩
      obtain ⟨hs0, ho0, hr0⟩ := hI.out.2.2
      have h4s : wr.heap.size ≤ w4.heap.size := hb4.size
      have hoA : Owns (w4.alloc (.cells #[.slice A4 l.length c4] 28)) (q + 1) 1 (.slice A3 i c3) i hs0 := (ho0.same (fun b hb => hb4.block b (ho0.lt b hb).2) h4s).alloc _
      have hb4A : Below wr.heap.size wr (w4.alloc (.cells #[.slice A4 l.length c4] 28)) := (show Below wr.heap.size wr w4 from ⟨hb4.os, hb4.tape, hb4.output, hb4.size, hb4.block⟩).alloc hb4.size _
      have hqs : q < wr.heap.size := (Array.getElem?_eq_some_iff.1 hI.out.1).1
      have H4 := Lib.hid (And.intro ho4 (And.intro hoA (And.intro hb4A (And.intro ho0 (And.intro hr0 (And.intro hcq2 hqs))))))
      clear ho4 hoA hb4 hb4A ho0 hr0 hcq
      refine mixN_step rfl ?_
      go_wp2_with fail
      refine ⟨rfl, fun _ => hcq2 _ _ HL.out.2.2.2, ?_⟩
      clear hcq2
      have hsrc : Src Tryd.prog 1 22 (.slice (some ⟨w4.heap.size, 0, none⟩) 1 1) 1 [.slice A4 l.length c4] (w4.alloc (.cells #[.slice A4 l.length c4] 28)) := src_one Tryd.underlying22 (by rw [cell_of_row _ _ 0 _ _ _ (heap_alloc_new w4 _)]; rfl) rfl
      have hbase : q + 1 ≤ (w4.alloc (.cells #[.slice A4 l.length c4] 28)).heap.size := by simp; omega
      have HS := Lib.hid (And.intro hsrc hbase)
      clear hsrc hbase
      refine mixN_step rfl ?_
      go_wp2_with (at_builtin; refine wpList_append rfl (.tmp 20) (.tmp 23) 22 22 rfl (q + 1) 28 _ 1 24 Tryd.underlying22 infoRow _ i hs0 rfl H4.out.2.1 _ 1 [.slice A4 l.length c4] rfl HS.out.1 (by unfold maxLen; omega) (by omega) HS.out.2 ?_; intro A5 c5 w5 hown5 hg5 hbl5)
      refine ⟨rfl, fun hn => Bool.noConfusion (hn.symm.trans (by kernel_rfl : _ = true)), ?_⟩
      have hnb : ∀ b, (Value.slice A3 i c3).ownBlock = some b → q + 1 ≤ b ∧ b < wr.heap.size := fun b e => H4.out.2.2.2.1.lt b e
      have hs5 : w4.heap.size + 1 ≤ w5.heap.size := by have := hg5.size; simpa using this
      have h5b : ∀ k, k < wr.heap.size → (Value.slice A3 i c3).ownBlock ≠ some k → w5.heap[k]? = wr.heap[k]? := fun k hk hne => (hg5.block k (by simp; omega) (fun e => hne e.symm)).trans (H4.out.2.2.1.block k hk)
      have h5q : w5.heap[q]? = some (.cells #[.slice A3 i c3, v] 80 (0, 0)) := (h5b q hqs (fun e => by have := (hnb q e).1; omega)).trans hI.out.1
      have e5 : w5.cell? ⟨q, 0, none⟩ = some (.slice A3 i c3) := by rw [cell_of_row _ _ 0 _ _ _ h5q]; rfl
      have f5 : w5.frozen? ⟨q, 0, none⟩ = false := frozen_of_row _ _ 0 _ _ h5q
      have H5 := Lib.hid (And.intro hown5 (And.intro hg5 (And.intro hbl5 (And.intro hnb (And.intro h5b h5q)))))
      clear hown5 hg5 hbl5 hnb h5b h5q
      repeat (refine mixN_free rfl rfl ?_; go_big_quiet_step (fail); refine wpQuiet_nil ?_)
      refine mixN_step rfl ?_
      go_wp2_with fail
      refine ⟨rfl, fun hn => Bool.noConfusion (hn.symm.trans (by kernel_rfl : _ = true)), ?_⟩
      unfold mixN
      go_wp2_with fail
      go_roundw
      case rel =>
        refine ⟨i + 1, A5, c5, by omega, by go_num, ?_⟩
        exact Lib.hid (newI_step hI.out.1 hI.out.2.1 (by have := HX.out.2.2.2.1; omega) hi HL.out.1 H4.out.2.2.2.1 H4.out.2.2.2.2.1 H4.out.1 h4s H4.out.2.2.1 H5.out.1 H5.out.2.1 H5.out.2.2.1 H5.out.2.2.2.2.1)
      case measure => simp [intOf]; omega
    · obtain rfl : i = ls.length := by omega
      go_wp2_with fail
      go_ret
      obtain ⟨h1, h2, hs1, h3, h4⟩ := hI.out
      have hqw := HX.out.2.2.2.1
      have hvv := HX.out.2.2.1
      have hb2 : Below W.heap.size W wr := below_chain' H2.out.2 (by rw [← hqw]; exact h2)
      have hvo : OwnD wr W.heap.size v (ls.map leafH) := by
        have h5 := H2.out.1
        rw [H.out.2.2.2] at h5
        rw [hvv]
        have hl0 : (Value.slice A2 ls.length c2) = v := hvv.symm
        refine ⟨?_, h5.dig⟩
        have h6 := h5.own
        rw [H.out.2.2.2] at h6 ⊢
        exact h6.same (fun b e => (h2.block b (by have := (h6.lt b e).2; omega))) h2.size
      have hvq : ∀ b, v.ownBlock = some b → b < q := fun b e => by
        have h5 := H2.out.1.own
        rw [H.out.2.2.2] at h5
        rw [hvv] at e
        have := (h5.lt b e).2
        omega
      have hq0 : W.heap.size ≤ q := by rw [hqw]; exact H2.out.2.size
      refine ⟨q, _, v, rfl, ⟨h1, ⟨hs1, h3.mono (by omega), fun i l hl => ?_⟩, hvo, H.out.2.1.byte, hq0, fun e => by have := (h3.lt q e).1; omega, fun e => by have := hvq q e; omega, fun b e e2 => by have := (h3.lt b e).1; have := hvq b e2; omega⟩, hb2⟩
      obtain ⟨h, k1, k2, k3⟩ := h4 i l (by rw [List.take_length]; exact hl)
      exact ⟨h, k1, k2, fun b e => by obtain ⟨a1, a2, a3⟩ := k3 b e; exact ⟨by omega, a2, by omega, a3, (fun e2 => by have := hvq b e2; omega), trivial⟩⟩
end Go.Proofs.YtplcjgpmainbnaaDoor.MkW
set_option linter.unusedVariables false
set_option linter.unusedSimpArgs false
namespace Go.Proofs.YtplcjgpmainbnaaDoor.MkW
open Go.RowKit OwnS ShaW RevL QTail
attribute [local go_sem ↓] Kit.execOp_call_slot
attribute [local go_sem] Kit.callSlot_func
section
variable {W : World} {base q : Nat} {lv v : Value} {ls : List (List Nat)} {T : Nat → Prop}
theorem TreeIn.vform (h : TreeIn W base q lv v ls T) : ∃ A c, v = .slice A ls.length c := by
  obtain ⟨A, c, e, -, -⟩ := h.digs.own.form
  exact ⟨A, c, by rw [e, List.length_map]⟩
theorem TreeIn.lform (h : TreeIn W base q lv v ls T) : ∃ A c, lv = .slice A ls.length c := by
  obtain ⟨hs, h1, -⟩ := h.rows
  obtain ⟨A, c, e, -, -⟩ := h1.form
  exact ⟨A, c, e⟩
theorem TreeIn.cell0 (h : TreeIn W base q lv v ls T) : W.cell? ⟨q, 0, none⟩ = some lv := by rw [cell_of_row W q 0 _ _ _ h.blk]; rfl
theorem TreeIn.cell1 (h : TreeIn W base q lv v ls T) : W.cell? ⟨q, 1, none⟩ = some v := by rw [cell_of_row W q 1 _ _ _ h.blk]; rfl
theorem TreeIn.root (h : TreeIn W base q lv v ls T) (hG : Glob W) (hn : ls.length ≤ 1000000) : Calls Tryd.prog 31 #[.pointer (some ⟨q, 0, none⟩)] W (SumPost W (rootN (ls.map leafH))) :=
  tree_root W q lv v _ hG h.blk h.digs.digs (by rw [List.length_map]; exact hn)
theorem TreeIn.len (h : TreeIn W base q lv v ls T) : Calls Tryd.prog 27 #[.pointer (some ⟨q, 0, none⟩)] W fun e w' => e = .returned (.int .i64 (ls.length : Int)) ∧ W = w' := by
  obtain ⟨A, c, rfl⟩ := h.vform
  have c1 := h.cell1
  clear h
  go_enter Tryd.func27, Tryd.ntmps27
  go_wp2_with fail
  go_ret
  exact ⟨rfl, rfl⟩
theorem TreeIn.check_in (h : TreeIn W base q lv v ls T) (i : Int) (h0 : 0 ≤ i) (h1 : i < (ls.length : Int)) : Calls Tryd.prog 46 #[.pointer (some ⟨q, 0, none⟩), .int .i64 i] W fun e w' => e = .returned (.int .i64 0) ∧ W = w' := by
  obtain ⟨A, c, rfl⟩ := h.vform
  have c1 := h.cell1
  clear h
  have g0 : ¬ i < 0 := by omega
  have g1 : ¬ (ls.length : Int) ≤ i := by omega
  go_enter Tryd.func46, Tryd.ntmps46
  go_wp2_with fail
  go_ret
  exact ⟨rfl, rfl⟩
theorem TreeIn.check_out (h : TreeIn W base q lv v ls T) (i : Int) (h1 : i < 0 ∨ (ls.length : Int) ≤ i) : Calls Tryd.prog 46 #[.pointer (some ⟨q, 0, none⟩), .int .i64 i] W fun e w' => e = .returned (.int .i64 10) ∧ W = w' := by
  obtain ⟨A, c, rfl⟩ := h.vform
  have c1 := h.cell1
  clear h
  by_cases h0 : i < 0
  · go_enter Tryd.func46, Tryd.ntmps46
    go_wp2_with fail
    go_ret
    exact ⟨rfl, rfl⟩
  · have g1 : (ls.length : Int) ≤ i := by omega
    go_enter Tryd.func46, Tryd.ntmps46
    go_wp2_with fail
    go_ret
    exact ⟨rfl, rfl⟩
theorem TreeIn.get_out (h : TreeIn W base q lv v ls T) (i : Int) (h1 : i < 0 ∨ (ls.length : Int) ≤ i) : Calls Tryd.prog 29 #[.pointer (some ⟨q, 0, none⟩), .int .i64 i] W fun e w' => e = .returned (.tuple #[.slice none 0 0, .int .i64 10]) ∧ W = w' := by
  have HC := Lib.hid (h.check_out i h1)
  clear h h1
  go_enter Tryd.func29, Tryd.ntmps29
  go_wp2_with (go_at_call 46; (with_reducible refine Calls.mono HC.out ?_); rintro e w' ⟨rfl, rfl⟩)
  go_ret2
  exact ⟨rfl, rfl⟩
theorem TreeIn.prove_out (h : TreeIn W base q lv v ls T) (i : Int) (h1 : i < 0 ∨ (ls.length : Int) ≤ i) : Calls Tryd.prog 30 #[.pointer (some ⟨q, 0, none⟩), .int .i64 i] W fun e w' => e = .returned (.tuple #[.slice none 0 0, .int .i64 10]) ∧ W = w' := by
  have HC := Lib.hid (h.check_out i h1)
  clear h h1
  go_enter Tryd.func30, Tryd.ntmps30
  go_wp2_with (go_at_call 46; (with_reducible refine Calls.mono HC.out ?_); rintro e w' ⟨rfl, rfl⟩)
  go_ret2
  exact ⟨rfl, rfl⟩
theorem TreeIn.set_out (h : TreeIn W base q lv v ls T) (i : Int) (x : Value) (h1 : i < 0 ∨ (ls.length : Int) ≤ i) : Calls Tryd.prog 28 #[.pointer (some ⟨q, 0, none⟩), .int .i64 i, x] W fun e w' => e = .returned (.int .i64 10) ∧ W = w' := by
  have HC := Lib.hid (h.check_out i h1)
  clear h h1
  go_enter Tryd.func28, Tryd.ntmps28
  go_wp2_with (go_at_call 46; (with_reducible refine Calls.mono HC.out ?_); rintro e w' ⟨rfl, rfl⟩)
  go_ret
  exact ⟨rfl, rfl⟩
def GetPost (W : World) (l : List Nat) (e : Ending) (w' : World) : Prop := ∃ A c, e = .returned (.tuple #[.slice A l.length c, .int .i64 0]) ∧ Owns w' W.heap.size 1 (.slice A l.length c) l.length (bytesV l) ∧ Below W.heap.size W w'
theorem TreeIn.get_in (h : TreeIn W base q lv v ls T) (i : Nat) (l : List Nat) (hi : ls[i]? = some l) (hl : l.length ≤ 1000000) : Calls Tryd.prog 29 #[.pointer (some ⟨q, 0, none⟩), .int .i64 i] W (GetPost W l) := by
  have hil := (List.getElem?_eq_some_iff.1 hi).1
  have hc := h.check_in i (by omega) (by omega)
  obtain ⟨hs, ho, hr⟩ := h.rows
  obtain ⟨x, hx, hse, -⟩ := hr i l hi
  obtain ⟨A', c', rfl, -, -⟩ := hse.form
  have c0 := h.cell0
  obtain ⟨g, o, cap, rfl, -, -, h3, -, hra, -⟩ := ho.holds (by omega)
  have ce := hra i _ hx
  have hcl := clone_bytes W _ l.length (bytesV l) hse (bytesV_one l) (by omega)
  have HC := Lib.hid (And.intro hc hcl)
  have i0 : (i : Int) < (ls.length : Int) := by omega
  clear hc hcl hse hr hra ho h hi hx
  go_enter Tryd.func29, Tryd.ntmps29
  go_wp2_with (first | (go_at_call 46; (with_reducible refine Calls.mono HC.out.1 ?_); rintro e w' ⟨rfl, rfl⟩) | (go_at_call 45; (with_reducible refine Calls.mono HC.out.2 ?_); rintro e w4 ⟨A4, c4, rfl, ho4, hb4⟩; have H4 := Lib.hid (And.intro ho4 hb4); clear ho4 hb4))
  go_ret2
  exact ⟨A4, c4, rfl, H4.out.1, H4.out.2⟩
theorem TreeIn.prove_in (h : TreeIn W base q lv v ls T) (i : Nat) (hi : i < ls.length) (hG : Glob W) (hn : ls.length ≤ 1000000) : Calls Tryd.prog 30 #[.pointer (some ⟨q, 0, none⟩), .int .i64 i] W (ProofPost W (proofN i (ls.map leafH))) := by
  have hc := h.check_in i (by omega) (by omega)
  have hl : (ls.map leafH).length = ls.length := List.length_map _
  have hp := prove_some W v (ls.map leafH) i hG h.digs.digs (by omega) (by omega) (revs_any _ (by
    rw [List.length_map]
    have h2 := parts_len (ls.map leafH).length 0 (ls.map leafH).length i
    have h3 : (partsOf (ls.map leafH).length i).length ≤ (ls.map leafH).length := h2
    omega))
  obtain ⟨A, c, rfl⟩ := h.vform
  have c1 := h.cell1
  have HC := Lib.hid (And.intro hc hp)
  clear hc hp h hl
  go_enter Tryd.func30, Tryd.ntmps30
  go_wp2_with (first | (go_at_call 46; (with_reducible refine Calls.mono HC.out.1 ?_); rintro e w' ⟨rfl, rfl⟩) | (go_at_call 40; (with_reducible refine Calls.mono HC.out.2 ?_); rintro e w3 ⟨A3, c3, rfl, ho3, hb3⟩; have H3 := Lib.hid (And.intro ho3 hb3); clear ho3 hb3))
  go_ret2
  exact ⟨A3, c3, rfl, H3.out.1, H3.out.2⟩
end
end Go.Proofs.YtplcjgpmainbnaaDoor.MkW
set_option linter.unusedVariables false
set_option linter.unusedSimpArgs false
namespace Go.Proofs.YtplcjgpmainbnaaDoor.MkW
open Go.RowKit OwnS ShaW RevL QTail
attribute [local go_sem ↓] Kit.execOp_call_slot
attribute [local go_sem] Kit.callSlot_func
section
variable {W : World} {base q : Nat} {lv v : Value} {ls : List (List Nat)} {T : Nat → Prop}
/-- One element is written over. -/
theorem owns_put {α : Type} {enc : α → List Value} {s : Nat} {w : World} {base g o cap : Nat} {ds : List α} (hs : ∀ d ∈ ds, (enc d).length = s) (h : Owns w base s (.slice (some ⟨g, o, none⟩) ds.length cap) ds.length (ds.map enc).flatten) {i : Nat} (hi : i < ds.length) (d : α) (hd : (enc d).length = s) :
    Owns (w.setCells g (o + i * s) (enc d)) base s (.slice (some ⟨g, o, none⟩) ds.length cap) ds.length ((ds.set i d).map enc).flatten := by
  obtain ⟨g', o', cap', e, h1, h2, h3, h4, h5, h6⟩ := h.holds (by omega)
  injection e with e1 e2 e3
  injection e1 with e1
  injection e1 with e1 e4
  subst e1 e3 e4
  have hs' : ∀ x ∈ ds.set i d, (enc x).length = s := fun x hx => by
    rcases List.mem_or_eq_of_mem_set hx with hx | rfl
    · exact hs x hx
    · exact hd
  have hat := at_flat hs h5
  refine ⟨by rw [flat_len hs', List.length_set], .inr ⟨g, o, cap, rfl, h1, by rw [(setCells_same g _ _ _).2.2.2]; exact h2, h3, h4, rangeAt_flat hs' (fun k x hk => ?_), World.there_setCells h6 _ _ _⟩⟩
  have sep : ∀ {p q : Nat}, p < q → o + p * s + s ≤ o + q * s := fun {p q} hpq => by
    have := Nat.mul_le_mul_right s (show p + 1 ≤ q from hpq)
    rw [Nat.succ_mul] at this
    omega
  by_cases hki : k = i
  · subst hki
    rw [List.getElem?_set_self hi] at hk
    injection hk with hk
    subst hk
    refine World.rangeAt_setCells_same _ _ _ _ ?_
    rw [hd]
    refine there_mono (there_drop (k := k * s) (n := (cap - k) * s) ?_) ?_
    · rw [← Nat.add_mul, show k + (cap - k) = cap by omega]; exact h6
    · have := Nat.mul_le_mul_right s (show 1 ≤ cap - k by omega)
      omega
  · rw [List.getElem?_set_ne (fun e => hki e.symm)] at hk
    refine World.rangeAt_setCells_apart (hat k x hk) _ _ _ ?_
    have hl := hs x (List.mem_of_getElem? hk)
    rw [hl, hd]
    rcases Nat.lt_or_gt_of_ne hki with h | h
    · exact .inr (.inl (sep h))
    · exact .inr (.inr (sep h))
theorem _root_.Go.Proofs.YtplcjgpmainbnaaDoor.OwnS.Owns.setCells {w : World} {base size n : Nat} {v : Value} {xs : List Value} (h : Owns w base size v n xs) {g : Nat} (hg : v.ownBlock ≠ some g) (o : Nat) (vs : List Value) : Owns (w.setCells g o vs) base size v n xs :=
  h.same (fun b hb => heap_setCells_ne w g o vs (by rintro rfl; exact hg hb)) (by rw [(setCells_same g _ _ _).2.2.2]; exact Nat.le_refl _)
theorem _root_.Go.Proofs.YtplcjgpmainbnaaDoor.OwnS.Sees.setCells {w : World} {size n : Nat} {v : Value} {xs : List Value} (h : Sees w size v n xs) {g : Nat} (hg : v.ownBlock ≠ some g) (o : Nat) (vs : List Value) : Sees (w.setCells g o vs) size v n xs :=
  h.same fun b hb _ => heap_setCells_ne w g o vs (by rintro rfl; exact hg hb)
theorem tree_set {w : World} {base q gr or capr gd od capd i n : Nat} {ls : List (List Nat)} {l : List Nat} {x : Value} {T : Nat → Prop} (h : TreeIn w base q (.slice (some ⟨gr, or, none⟩) n capr) (.slice (some ⟨gd, od, none⟩) n capd) ls T) (hn : n = ls.length) (hi : i < ls.length)
    (hx : Sees w 1 x l.length (bytesV l)) (hxb : ∀ b, x.ownBlock = some b → base ≤ b ∧ b < w.heap.size ∧ b ≠ q ∧ b ≠ gr ∧ b ≠ gd ∧ T b) (hl : ∀ y ∈ l, y < 256) :
    TreeIn ((w.setCell ⟨gr, or + i, none⟩ x).setCells gd (od + i * 32) (bytesV (leafH l))) base q (.slice (some ⟨gr, or, none⟩) n capr) (.slice (some ⟨gd, od, none⟩) n capd) (ls.set i l) T := by
  subst hn
  obtain ⟨hs, h1, h2⟩ := h.rows
  have hap := h.apart
  have nrq : gr ≠ q := fun e => hap.1 (by rw [e]; rfl)
  have ndq : gd ≠ q := fun e => hap.2.1 (by rw [e]; rfl)
  have nrd : gr ≠ gd := fun e => hap.2.2 gr rfl (by rw [e]; rfl)
  have hl0 : hs.length = ls.length := by have := h1.1; omega
  have hone : ∀ ys : List Value, (ys.map fun y => [y]).flatten = ys := flat_one
  have o1 : Owns (w.setCells gr (or + i) [x]) base 1 (.slice (some ⟨gr, or, none⟩) ls.length capr) ls.length (hs.set i x) := by
    have := owns_put (enc := fun y : Value => [y]) (s := 1) (ds := hs) (i := i) (fun _ _ => rfl) (by rw [hone, hl0]; exact h1) (by omega) x rfl
    rwa [hone, hl0, Nat.mul_one] at this
  have o2 : Owns (w.setCells gr (or + i) [x]) base 32 (.slice (some ⟨gd, od, none⟩) ls.length capd) ls.length (bytesV (ls.map leafH).flatten) := by
    have := h.digs.own.setCells (g := gr) (by intro e; injection e with e; exact nrd e.symm) (or + i) [x]
    rwa [List.length_map] at this
  have dg : ∀ d ∈ ls.map leafH, Dig d := h.digs.dig
  refine ⟨?_, ⟨hs.set i x, ?_, fun j l' hj => ?_⟩, ⟨?_, ?_⟩, ?_, h.new, hap⟩
  · exact (heap_setCells_ne _ gd _ _ (fun e => ndq e.symm)).trans ((heap_setCells_ne w gr (or + i) [x] (fun e => nrq e.symm)).trans h.blk)
  · have := o1.setCells (g := gd) (by intro e; injection e with e; exact nrd e) (od + i * 32) (bytesV (leafH l))
    rw [List.length_set]
    exact this
  · by_cases hji : j = i
    · subst hji
      rw [List.getElem?_set_self hi] at hj
      injection hj with hj
      subst hj
      refine ⟨x, List.getElem?_set_self (by omega), ?_, fun b e => ?_⟩
      · exact (Sees.setCells (g := gr) hx (fun e => (hxb gr e).2.2.2.1 rfl) (or + j) [x]).setCells (fun e => (hxb gd e).2.2.2.2.1 rfl) _ _
      · obtain ⟨k1, k2, k3, k4, k5, k6⟩ := hxb b e
        exact ⟨k1, by rw [(setCells_same gd _ _ _).2.2.2]; simpa using k2, k3, fun e => by injection e with e; exact k4 e.symm, (fun e => by injection e with e; exact k5 e.symm), k6⟩
    · rw [List.getElem?_set_ne (fun e => hji e.symm)] at hj
      obtain ⟨y, e1, e2, e3⟩ := h2 j l' hj
      refine ⟨y, by rw [List.getElem?_set_ne (fun e => hji e.symm)]; exact e1, ?_, fun b e => ?_⟩
      · exact (Sees.setCells (g := gr) e2 (fun e => (e3 gr e).2.2.2.1 rfl) (or + i) [x]).setCells (fun e => (e3 gd e).2.2.2.2.1 rfl) _ _
      · obtain ⟨k1, k2, k3, k4, k5⟩ := e3 b e
        exact ⟨k1, by rw [(setCells_same gd _ _ _).2.2.2]; simpa using k2, k3, k4, k5⟩
  · have hd32 : ∀ d ∈ ls.map leafH, (bytesV d).length = 32 := dig_bytes dg
    have hll : (ls.map leafH).length = ls.length := List.length_map _
    have := owns_put (enc := bytesV) (s := 32) (ds := ls.map leafH) (i := i) hd32 (by rw [← bytes_flat, hll]; exact o2) (by omega) (leafH l) (by rw [bytesV_length, (dig_leaf l).1])
    rw [← bytes_flat, hll, ← List.map_set] at this
    rw [List.length_map, List.length_set]
    exact this
  · intro d hd
    rw [List.map_set] at hd
    rcases List.mem_or_eq_of_mem_set hd with hd | rfl
    · exact dg d hd
    · exact dig_leaf _
  · intro l' hl'
    rcases List.mem_or_eq_of_mem_set hl' with hl' | rfl
    · exact h.byte l' hl'
    · exact hl
theorem there_owns {w : World} {base g o n cap : Nat} {xs : List Value} (h : Owns w base 1 (.slice (some ⟨g, o, none⟩) n cap) n xs) {i : Nat} (hi : i < n) : (w.cell? ⟨g, o + i, none⟩).isSome = true ∧ w.frozen? ⟨g, o + i, none⟩ = false := by
  obtain ⟨g', o', cap', e, h1, h2, h3, h4, h5, h6⟩ := h.holds (by omega)
  injection e with e1 e2 e3
  injection e1 with e1
  injection e1 with e1 e4
  subst e1 e3 e4
  exact h6 i (by omega)
def SetPost (W : World) (base q : Nat) (lv v : Value) (ls : List (List Nat)) (T : Nat → Prop) (e : Ending) (w' : World) : Prop := e = .returned (.int .i64 0) ∧ TreeIn w' base q lv v ls T ∧ Keeps W w' (fun b => lv.ownBlock = some b ∨ v.ownBlock = some b)
set_option maxRecDepth 100000 in
set_option maxHeartbeats 2000000 in
theorem TreeIn.set_in (h : TreeIn W base q lv v ls T) (i : Nat) (hi : i < ls.length) (bv : Value) (l : List Nat) (hb : Sees W 1 bv l.length (bytesV l)) (hbb : ∀ x ∈ l, x < 256) (hbn : l.length ≤ 1000000) (hG : Glob W) (hT : ∀ b, W.heap.size ≤ b → T b) :
    Calls Tryd.prog 28 #[.pointer (some ⟨q, 0, none⟩), .int .i64 i, bv] W (SetPost W base q lv v (ls.set i l) T) := by
  have hc := h.check_in i (by omega) (by omega)
  obtain ⟨hs, ho, hr⟩ := h.rows
  obtain ⟨gr, or, capr, rfl, r1, r2, r3, r4, r5, r6⟩ := ho.holds (by omega)
  have hll : (ls.map leafH).length = ls.length := List.length_map _
  obtain ⟨gd, od, capd, e, d1, d2, d3, d4, d5, d6⟩ := h.digs.own.holds (by omega)
  rw [hll] at e
  subst e
  obtain ⟨A', c', rfl, -, -⟩ := hb.form
  have c0 := h.cell0
  have c1 := h.cell1
  have hcl := clone_bytes W.drew _ l.length (bytesV l) (hb.new ⟨rfl, rfl, rfl, Nat.le_refl _, fun _ _ => rfl⟩) (bytesV_one l) (by omega)
  have hlf := fun (w : World) (hw : Below W.heap.size W w) => leaf_any w _ l (hG.new hw) (hb.new hw) hbb (by omega)
  obtain ⟨d, hd⟩ : ∃ d, d = leafH l := ⟨_, rfl⟩
  have hdd : Dig d := by rw [hd]; exact dig_leaf _
  rw [show Sha.sum (0 :: l) = d by rw [hd]; rfl] at hlf
  have i0 : (i : Int) < (ls.length : Int) := by omega
  have H := Lib.hid (And.intro hc (And.intro hcl (And.intro hlf (And.intro hdd (And.intro hd (And.intro h hbb))))))
  have HO := Lib.hid (And.intro c0 c1)
  clear hc hcl hlf hdd hd hr ho r5 r6 d5 d6 hG hb hbb r1 r2 d1 d2 h hll
  go_enter Tryd.func28, Tryd.ntmps28
  go_wp2_with (go_at_call 46; (with_reducible refine Calls.mono H.out.1 ?_); rintro e w' ⟨rfl, rfl⟩)
  refine wp_region_mixS (fun w' => w'.cell? ⟨q, 0, none⟩ = some (.slice (some ⟨gr, or, none⟩) ls.length capr) ∧ w'.cell? ⟨q, 1, none⟩ = some (.slice (some ⟨gd, od, none⟩) ls.length capd)) (fun k => k == 3 || k == 8) [0, 1, 2, 3, 4, 5, 6, 7, 8, 9, 10, 12, 11, 13, 14, 15, 16, 17] (by kernel_rfl) rfl (by kernel_rfl) (by kernel_rfl) (by kernel_rfl) HO.out ?_
  intro I hNI F hF
  have f0 : ∀ j : I, (F j).cell? ⟨q, 0, none⟩ = some (.slice (some ⟨gr, or, none⟩) ls.length capr) := fun j => (hF j).1
  have f1 : ∀ j : I, (F j).cell? ⟨q, 1, none⟩ = some (.slice (some ⟨gd, od, none⟩) ls.length capd) := fun j => (hF j).2
  clear hF
  simp only [pairOps, List.filterMap_cons, List.filterMap_nil, List.getElem?_cons_succ, List.getElem?_cons_zero, Option.map_some]
  repeat (first | (refine mixN_free rfl rfl ?_; go_big_quiet_step (fail); refine wpQuiet_nil ?_) | (refine mixN_need rfl rfl HO.out ?_; go_big_quiet_step (fail); refine wpQuiet_nil ?_))
  refine mixN_step rfl ?_
  go_wp2_with (go_at_call 45; (with_reducible refine Calls.mono H.out.2.1 ?_); rintro e w4 ⟨A4, c4, rfl, ho4, hb4⟩)
  have hb4' : Below W.heap.size W w4 := ⟨hb4.os, hb4.tape, hb4.output, hb4.size, hb4.block⟩
  have hk4 : ∀ p u, W.cell? p = some u → w4.cell? p = some u := fun p u hp => (hb4'.cell (block_lt_of_cell hp)).trans hp
  refine ⟨rfl, fun _ => ⟨hk4 _ _ HO.out.1, hk4 _ _ HO.out.2⟩, ?_⟩
  have H4 := Lib.hid (And.intro (show Owns w4 W.heap.size 1 _ _ _ from ho4) (And.intro hb4' (H.out.2.2.1 _ hb4')))
  clear ho4 hb4 hb4' hk4
  refine mixN_step rfl ?_
  go_wp2_with (go_at_call 12; (with_reducible refine Calls.mono H4.out.2.2 ?_); rintro e w5 ⟨rfl, hb5⟩)
  have hb5' := below_chain' H4.out.2.1 hb5
  have hk5 : ∀ p u, W.cell? p = some u → w5.cell? p = some u := fun p u hp => (hb5'.cell (block_lt_of_cell hp)).trans hp
  refine ⟨rfl, fun _ => ⟨hk5 _ _ HO.out.1, hk5 _ _ HO.out.2⟩, ?_⟩
  have H5 := Lib.hid (And.intro hb5 (And.intro hb5' (H.out.2.2.2.2.2.1.keep hb5')))
  clear hb5 hb5' hk5
  refine mixN_free rfl rfl ?_
  go_big_quiet_step (fail)
  refine wpQuiet_nil ?_
  obtain ⟨hs5, ho5, hr5⟩ := H5.out.2.2.rows
  obtain ⟨hT1, hT2⟩ := there_owns ho5 (by omega : i < ls.length)
  obtain ⟨u5, hu5⟩ := Option.isSome_iff_exists.1 hT1
  have HT := Lib.hid (And.intro ho5 hr5)
  clear ho5 hr5 hT1
  refine mixN_step rfl ?_
  go_wp2_with fail
  refine ⟨rfl, fun hn => Bool.noConfusion (hn.symm.trans (by kernel_rfl : _ = true)), ?_⟩
  refine mixN_free rfl rfl ?_
  go_big_quiet_step (fail)
  refine wpQuiet_nil ?_
  refine mixN_step rfl ?_
  have hth : (w5.setCell ⟨gr, or + i, none⟩ (.slice A4 l.length c4)).there gd (od + i * 32) 32 := by
    have h9 := H5.out.2.2.digs.own.setCells (g := gr) (H5.out.2.2.apart.2.2 gr rfl) (or + i) [.slice A4 l.length c4]
    obtain ⟨g', o', cap', e, k1, k2, k3, k4, k5, k6⟩ := h9.holds (by rw [List.length_map]; omega)
    injection e with e1 e2 e3
    injection e1 with e1
    injection e1 with e1 e4
    subst e1 e3 e4
    rw [List.length_map] at k3
    refine there_mono (there_drop (k := i * 32) (n := (capd - i) * 32) ?_) ?_
    · rw [← Nat.add_mul, show i + (capd - i) = capd by omega]; exact k6
    · omega
  have HH := Lib.hid hth
  clear hth
  go_wp2_with (refine wpList_store_mid32 rfl (.tmp 29) (.tmp 27) rfl gd (od + i * 32) d rfl rfl H.out.2.2.2.1.1 HH.out ?_)
  refine ⟨rfl, fun hn => Bool.noConfusion (hn.symm.trans (by kernel_rfl : _ = true)), ?_⟩
  unfold mixN
  go_wp2_with fail
  go_ret
  have hx4 : ∀ b, (Value.slice A4 l.length c4).ownBlock = some b → W.heap.size ≤ b ∧ b < w4.heap.size := fun b e => H4.out.1.lt b e
  have ht0 := H.out.2.2.2.2.2.1
  have hq0 : q < W.heap.size := (Array.getElem?_eq_some_iff.1 ht0.blk).1
  obtain ⟨hs0, ho0, -⟩ := ht0.rows
  have hg0 := (ho0.lt gr rfl).2
  have hd0 := (ht0.digs.own.lt gd rfl)
  have hs45 : w4.heap.size ≤ w5.heap.size := H5.out.1.size
  refine ⟨rfl, ?_, ?_⟩
  · rw [H.out.2.2.2.2.1]
    refine tree_set H5.out.2.2 rfl hi ?_ (fun b e => ?_) (H.out.2.2.2.2.2.2)
    · exact H4.out.1.sees.new H5.out.1
    · have h1 := hx4 b e
      have h2 := ht0.new
      exact ⟨by omega, by omega, by omega, by omega, by omega, hT b h1.1⟩
  · have k5 : Keeps W w5 (fun b => (Value.slice (some ⟨gr, or, none⟩) ls.length capr).ownBlock = some b ∨ (Value.slice (some ⟨gd, od, none⟩) ls.length capd).ownBlock = some b) := Keeps.new H5.out.2.1
    exact keeps_setCells (k5.setCell (a := ⟨gr, or + i, none⟩) (.inl (.inl rfl)) _) (.inr rfl) _ _
theorem TreeIn.mono {T' : Nat → Prop} (h : TreeIn W base q lv v ls T) (hT : ∀ b, T b → b < W.heap.size → T' b) : TreeIn W base q lv v ls T' := by
  obtain ⟨hs, h1, h2⟩ := h.rows
  refine ⟨h.blk, ⟨hs, h1, fun i l hl => ?_⟩, h.digs, h.byte, h.new, h.apart⟩
  obtain ⟨x, h3, h4, h5⟩ := h2 i l hl
  exact ⟨x, h3, h4, fun b e => by obtain ⟨a1, a2, a3, a4, a5, a6⟩ := h5 b e; exact ⟨a1, a2, a3, a4, a5, hT b a6 a2⟩⟩
/-- Blocks that are none of the tree's may change. -/
theorem TreeIn.foreign {w' : World} {S : Nat → Prop} (h : TreeIn W base q lv v ls T) (hk : Keeps W w' S) (hT : ∀ b, T b → ¬ S b) (hq : ¬ S q) (hl : ∀ b, lv.ownBlock = some b → ¬ S b) (hv : ∀ b, v.ownBlock = some b → ¬ S b) : TreeIn w' base q lv v ls T := by
  obtain ⟨hs, h1, h2⟩ := h.rows
  refine ⟨(hk.block q (Array.getElem?_eq_some_iff.1 h.blk).1 hq).trans h.blk, ⟨hs, h1.same (fun b e => hk.block b (h1.lt b e).2 (hl b e)) hk.size, fun i l hl' => ?_⟩, ⟨h.digs.own.same (fun b e => hk.block b (h.digs.own.lt b e).2 (hv b e)) hk.size, h.digs.dig⟩, h.byte, h.new, h.apart⟩
  obtain ⟨x, h3, h4, h5⟩ := h2 i l hl'
  exact ⟨x, h3, h4.same (fun b e _ => hk.block b (h5 b e).2.1 (hT b (h5 b e).2.2.2.2.2)), fun b e => ⟨(h5 b e).1, Nat.lt_of_lt_of_le (h5 b e).2.1 hk.size, (h5 b e).2.2⟩⟩
theorem TreeIn.lt (h : TreeIn W base q lv v ls T) : ∀ b, lv.ownBlock = some b ∨ v.ownBlock = some b → base ≤ b ∧ b < W.heap.size := by
  obtain ⟨hs, ho, -⟩ := h.rows
  rintro b (e | e)
  · exact ho.lt b e
  · exact h.digs.own.lt b e
end
end Go.Proofs.YtplcjgpmainbnaaDoor.MkW
