import Derived.Test.YtfhaebaegkpkhaaBlk
import Derived.RangeFuncNested
import Derived.RangeFuncBound
import Derived.RangeFuncCalls
import Derived.RangeFuncLeaves
import Derived.Shelf.Abstract
import Derived.Shelf.RegionOpen
import Derived.OwnWalkIn
import Derived.TacticsInMore
import Derived.LoopNIn
import Derived.LoopIn
namespace Go.Proofs.Ytfhaebaegkpkhaa.Cfg
open Go.RowKit Go.Shelf
attribute [local go_sem] Oper.semAt_some

def Blk.val (b : Blk) : Value := .agg #[.int .i64 b.kind, .int .i64 b.layer, .int .i64 b.rows, .int .i64 b.cols, .bool b.vec]

theorem flat_at (l : List Blk) (k : Nat) (h : k < l.length) (j : Nat) (hj : j < 5) : (flat l)[k * 5 + j]? = (l[k]).cells[j]? := by
  induction l generalizing k with
  | nil => simp at h
  | cons b l ih =>
    have e : flat (b :: l) = b.cells ++ flat l := by simp [flat]
    rw [e]
    cases k with
    | zero => rw [List.getElem?_append_left (by simp [Blk.cells]; omega)]; simp
    | succ k =>
      rw [List.getElem?_append_right (by simp [Blk.cells]; omega)]
      have : (k + 1) * 5 + j - b.cells.length = k * 5 + j := by simp [Blk.cells]; omega
      rw [this]
      simpa using ih k (by simpa using h)

/-- The parts as a row of memory at block g. -/
def RowAt (W : World) (g : Nat) (l : List Blk) : Prop := ∀ k (h : k < l.length) j, j < 5 → W.cell? ⟨g, k * 5 + j, none⟩ = (l[k]).cells[j]?

/-- The blocks of S are as they were. -/
structure KeepS (S : Nat → Prop) (A B : World) : Prop where
  size : A.heap.size ≤ B.heap.size
  same : ∀ k, S k → B.heap[k]? = A.heap[k]?
theorem KeepS.refl (S : Nat → Prop) (A : World) : KeepS S A A := ⟨Nat.le_refl _, fun _ _ => rfl⟩
theorem KeepS.trans {S : Nat → Prop} {A B C : World} (h : KeepS S A B) (k : KeepS S B C) : KeepS S A C := ⟨Nat.le_trans h.size k.size, fun b hb => (k.same b hb).trans (h.same b hb)⟩
theorem KeepS.below {S : Nat → Prop} {A B : World} {n : Nat} (h : Below n A B) (hS : ∀ k, S k → k < n) : KeepS S A B := ⟨h.size, fun k hk => h.block k (hS k hk)⟩
theorem KeepS.setCell {S : Nat → Prop} {A B : World} (h : KeepS S A B) {b : Nat} (o : Nat) (hb : ¬ S b) (v : Value) : KeepS S A (B.setCell ⟨b, o, none⟩ v) :=
  h.trans ⟨by simp [World.setCell], fun k hk => Below.heap_setCell _ _ _ _ (by rintro rfl; exact hb hk)⟩
theorem KeepS.alloc {S : Nat → Prop} {A B : World} (h : KeepS S A B) (hS : ∀ k, S k → k < A.heap.size) (o : Obj) : KeepS S A (B.alloc o) :=
  h.trans ⟨by simp, fun k hk => Below.heap_alloc _ _ _ (Nat.lt_of_lt_of_le (hS k hk) h.size)⟩
theorem KeepS.putObj {S : Nat → Prop} (W : World) (l : Nat) (o' : Obj) (hl : ¬ S l) : KeepS S W (W.putObj l o') :=
  ⟨(grownBy_putObj' W l o').size, fun k hk => by
    by_cases h : k < W.heap.size
    · exact (grownBy_putObj' W l o').block k h (fun e => hl (by cases e; exact hk))
    · have h1 := (grownBy_putObj' W l o').size
      have : (W.putObj l o').heap.size = W.heap.size := by simp [World.putObj]
      rw [Array.getElem?_eq_none (by omega), Array.getElem?_eq_none (by omega)]⟩
theorem keepS_b {S : Nat → Prop} {n : Nat} (hS : ∀ k, S k → k < n) (W : World) (l : Nat) (o o' : Obj) (hl : n ≤ l) (_ : W.heap[l]? = some o) (_ : o.isCells = false) (_ : o.isWalk = false) : KeepS S W (W.putObj l o') :=
  KeepS.putObj W l o' fun h => by have := hS l h; omega

theorem RowAt.keep {W W' : World} {S : Nat → Prop} {g : Nat} {l : List Blk} (h : RowAt W g l) (hb : KeepS S W W') (hg : S g) : RowAt W' g l := fun k hk j hj => (World.cell?_of_block (a := ⟨g, k * 5 + j, none⟩) (hb.same g hg)).trans (h k hk j hj)
theorem RowAt.cells {W : World} {g : Nat} {l : List Blk} (h : RowAt W g l) (k : Nat) (hk : k < l.length) :
    W.cell? ⟨g, k * 5, none⟩ = some (.int .i64 l[k].kind) ∧ W.cell? ⟨g, k * 5 + 1, none⟩ = some (.int .i64 l[k].layer) ∧ W.cell? ⟨g, k * 5 + 2, none⟩ = some (.int .i64 l[k].rows) ∧ W.cell? ⟨g, k * 5 + 3, none⟩ = some (.int .i64 l[k].cols) ∧ W.cell? ⟨g, k * 5 + 4, none⟩ = some (.bool l[k].vec) :=
  ⟨h k hk 0 (by omega), h k hk 1 (by omega), h k hk 2 (by omega), h k hk 3 (by omega), h k hk 4 (by omega)⟩

set_option maxRecDepth 100000 in
set_option maxHeartbeats 2000000 in
theorem values1_in (n : Nat) (hn : 1 ≤ n) (l Bs g cap : Nat) (S : Nat → Prop) (zs : List Blk) (hreach : zs.length ≤ 1000) (hb : S g) (J Jx : List Blk → World → Prop)
    (hY : ∀ pre x W, x ∈ zs → J pre W → pre.length < zs.length → YieldAt Fence.wide (n - 1) Try.prog l #[x.val] W fun e W' =>
      (e = .returned (.bool true) ∧ J (pre ++ [x]) W' ∧ KeepS S W W') ∨ (e = .returned (.bool false) ∧ Jx (pre ++ [x]) W'))
    (hJ : ∀ pre W W2, J pre W → W.grownBy W2 none → J pre W2)
    (W : World) (hBs : W.cell? ⟨Bs, 0, none⟩ = some (.slice (some ⟨g, 0, none⟩) zs.length cap)) (hc : RowAt W g zs) (h0 : J [] W) (hS : ∀ k, S k → k < W.heap.size) :
    CallsIn Fence.wide n Try.prog 120 #[.func (.yield l) #[] #[], .pointer (some ⟨Bs, 0, none⟩)] W fun e W' => (∃ v, e = .returned v) ∧
      (J zs W' ∨ (∃ pre, pre <+: zs ∧ Jx pre W')) := by
  refine callsIn_of_wp Try.func120 rfl trivial ?_ rfl
  simp only [Try.ntmps120, List.size_toArray, List.length_cons, List.length_nil, Nat.reduceAdd, Nat.reduceSub, Array.replicate_succ, Array.replicate_zero, List.push_toArray, List.append_toArray, List.nil_append, List.cons_append]
  gi_wp2
  gi_loopw [7] (fun i wr => ∃ k : Nat, k ≤ zs.length ∧ i = .int .i64 k ∧ J (zs.take k) wr ∧ KeepS S W wr)
    (fun i _ => zs.length - (intOf i).toNat)
  case atStart => exact ⟨0, Nat.zero_le _, rfl, h0, KeepS.refl _ _⟩
  case round =>
    obtain ⟨k, hk, rfl, hJk, hnx⟩ := hrel
    by_cases hlt : k < zs.length
    · obtain ⟨c0, c1, c2, c3, c4⟩ := (hc.keep hnx hb).cells k hlt
      have hJ1 : J (zs.take k) (wr.alloc (.cells #[.int .i64 zs[k].kind, .int .i64 zs[k].layer, .int .i64 zs[k].rows, .int .i64 zs[k].cols, .bool zs[k].vec] 131)) := hJ _ _ _ hJk (World.grownBy_alloc _ _ _)
      obtain ⟨fn, tmps, assign, body, hy, hR⟩ := hY _ zs[k] _ (List.getElem_mem hlt) hJ1 (by rw [List.length_take]; omega)
      simp only [Blk.val] at hy
      have hB2 : KeepS S W (wr.alloc (.cells #[.int .i64 zs[k].kind, .int .i64 zs[k].layer, .int .i64 zs[k].rows, .int .i64 zs[k].cols, .bool zs[k].vec] 131)) := hnx.alloc hS _
      have HB := Lib.hid hB2
      clear hB2 hJ1
      gi_wp2
      refine hR.mono ?_
      rintro e W3 (⟨rfl, hJ3, hk3⟩ | ⟨rfl, hJx3⟩)
      · gi_wp2
        go_roundw
        case rel => exact ⟨k + 1, by omega, by simp, by rw [List.take_succ_eq_append_getElem hlt]; exact hJ3, HB.out.trans hk3⟩
        case measure => simp [intOf]; omega
      · gi_wp2
        refine bodyPost_ret (results_none rfl _ _ _) rfl ?_
        exact ⟨⟨_, rfl⟩, .inr ⟨_, by rw [← List.take_succ_eq_append_getElem hlt]; exact List.take_prefix _ _, hJx3⟩⟩
    · obtain rfl : k = zs.length := by omega
      rw [List.take_length] at hJk
      gi_wp2
      go_end0
      exact ⟨⟨_, rfl⟩, .inl hJk⟩

/-- An iterator over parts: what the body must keep is the row of the parts. -/
theorem values_stops (n : Nat) (hn : 1 ≤ n) (w : World) (base q : Nat) (S : Nat → Prop) (zs : List Blk) (hreach : zs.length ≤ 1000) (h0 : zs ≠ []) (hs : Seq base w q zs) (hg : ∀ v, Boxed w q 175 v → ∀ g, v.ownBlock = some g → S g) (hS : ∀ k, S k → k < w.heap.size) :
    SeqStopsK Fence.wide n Try.prog 120 #[.pointer (some ⟨q, 0, none⟩)] (fun x : Blk => #[x.val]) (KeepS S) (fun ys => ys = zs) (fun pre => pre <+: zs) zs.length w := by
  intro l J Jx W hW hA _ hY hJ0
  obtain ⟨v, hv, hr⟩ := hs.ex
  have hlen : 0 < zs.length := by
    cases zs with
    | nil => exact absurd rfl h0
    | cons _ _ => simp
  obtain ⟨g, cap, rfl, hbg, hgl⟩ := hr.form hlen
  have hg' := hg _ hv g rfl
  have hrow : RowAt w g zs := fun k hk j hj => by
    have e : (flat zs)[k * 5 + j]? = (zs[k]).cells[j]? := flat_at zs k hk j hj
    have e2 := hr.cells (g := g) rfl (k * 5 + j)
    rw [e] at e2
    have hj' : j < (zs[k]).cells.length := by simpa [Blk.cells] using hj
    have e3 := e2 _ (List.getElem?_eq_getElem hj')
    rw [List.getElem?_eq_getElem hj']
    rw [← e3]
    congr 1
    unfold Addr.add
    split <;> simp_all
  have hW' : KeepS S w W := KeepS.below hW hS
  refine (values1_in n hn l q g cap S zs hreach hg' J Jx (fun pre x W _ => hY pre x W) (fun pre W1 W2 hj hgr => hA pre W1 W2 none hj hgr (by simp)) W (by rw [hW.cell (p := ⟨q, 0, none⟩) hv.lt]; exact hv.cell) (hrow.keep hW' hg') hJ0 (fun k hk => Nat.lt_of_lt_of_le (hS k hk) hW.size)).mono ?_
  rintro e W' ⟨he, h | h⟩
  · exact ⟨he, .inl ⟨_, rfl, h⟩⟩
  · exact ⟨he, .inr h⟩
/-- The same, where the body is told of parts of a kind alone. -/
theorem values_fix (fx : Blk → Blk) (n : Nat) (hn : 1 ≤ n) (w : World) (base q : Nat) (S : Nat → Prop) (zs : List Blk) (hfx : ∀ b ∈ zs, fx b = b) (hreach : zs.length ≤ 1000) (h0 : zs ≠ []) (hs : Seq base w q zs) (hg : ∀ v, Boxed w q 175 v → ∀ g, v.ownBlock = some g → S g) (hS : ∀ k, S k → k < w.heap.size) :
    SeqStopsK Fence.wide n Try.prog 120 #[.pointer (some ⟨q, 0, none⟩)] (fun x : Blk => #[(fx x).val]) (KeepS S) (fun ys => ys = zs) (fun pre => pre <+: zs) zs.length w := by
  intro l J Jx W hW hA _ hY hJ0
  obtain ⟨v, hv, hr⟩ := hs.ex
  have hlen : 0 < zs.length := by
    cases zs with
    | nil => exact absurd rfl h0
    | cons _ _ => simp
  obtain ⟨g, cap, rfl, hbg, hgl⟩ := hr.form hlen
  have hg' := hg _ hv g rfl
  have hrow : RowAt w g zs := fun k hk j hj => by
    have e : (flat zs)[k * 5 + j]? = (zs[k]).cells[j]? := flat_at zs k hk j hj
    have e2 := hr.cells (g := g) rfl (k * 5 + j)
    rw [e] at e2
    have hj' : j < (zs[k]).cells.length := by simpa [Blk.cells] using hj
    have e3 := e2 _ (List.getElem?_eq_getElem hj')
    rw [List.getElem?_eq_getElem hj']
    rw [← e3]
    congr 1
    unfold Addr.add
    split <;> simp_all
  have hW' : KeepS S w W := KeepS.below hW hS
  refine (values1_in n hn l q g cap S zs hreach hg' J Jx (fun pre x W hx hj hlt => by have h := hY pre x W hj hlt; simp only [hfx x hx] at h; exact h) (fun pre W1 W2 hj hgr => hA pre W1 W2 none hj hgr (by simp)) W (by rw [hW.cell (p := ⟨q, 0, none⟩) hv.lt]; exact hv.cell) (hrow.keep hW' hg') hJ0 (fun k hk => Nat.lt_of_lt_of_le (hS k hk) hW.size)).mono ?_
  rintro e W' ⟨he, h | h⟩
  · exact ⟨he, .inl ⟨_, rfl, h⟩⟩
  · exact ⟨he, .inr h⟩
end Go.Proofs.Ytfhaebaegkpkhaa.Cfg
