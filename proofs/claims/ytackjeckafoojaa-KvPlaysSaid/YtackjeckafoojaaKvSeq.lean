/- slices.Values of ints, gone through. -/
import Derived.Test.YtackjeckafoojaaKvInts
import Derived.RangeFuncNested
import Derived.RangeFuncBound
import Derived.RangeFuncCalls
import Derived.RangeFuncLeaves
import Derived.Shelf.Abstract
import Derived.Shelf.RegionOpen
import Derived.OwnWalkIn
import Derived.TacticsInMore
import Derived.LoopNIn
import Derived.LoopIn
namespace Go.Proofs.Ytackjeckafoojaa.Kv
open Go.RowKit Go.Shelf
attribute [local go_sem] Oper.semAt_some

/-- The blocks of S are as they were. -/
structure KeepS (S : Nat → Prop) (A B : World) : Prop where
  size : A.heap.size ≤ B.heap.size
  same : ∀ k, S k → B.heap[k]? = A.heap[k]?
theorem KeepS.refl (S : Nat → Prop) (A : World) : KeepS S A A := ⟨Nat.le_refl _, fun _ _ => rfl⟩
theorem KeepS.trans {S : Nat → Prop} {A B C : World} (h : KeepS S A B) (k : KeepS S B C) : KeepS S A C := ⟨Nat.le_trans h.size k.size, fun b hb => (k.same b hb).trans (h.same b hb)⟩
theorem KeepS.below {S : Nat → Prop} {A B : World} {n : Nat} (h : Below n A B) (hS : ∀ k, S k → k < n) : KeepS S A B := ⟨h.size, fun k hk => h.block k (hS k hk)⟩
theorem KeepS.setCell {S : Nat → Prop} {A B : World} (h : KeepS S A B) {b : Nat} (o : Nat) (hb : ¬ S b) (v : Value) : KeepS S A (B.setCell ⟨b, o, none⟩ v) :=
  h.trans ⟨by simp [World.setCell], fun k hk => Below.heap_setCell _ _ _ _ (by rintro rfl; exact hb hk)⟩
theorem KeepS.alloc {S : Nat → Prop} {A B : World} (h : KeepS S A B) (hS : ∀ k, S k → k < A.heap.size) (o : Obj) : KeepS S A (B.alloc o) :=
  h.trans ⟨by simp, fun k hk => Below.heap_alloc _ _ _ (Nat.lt_of_lt_of_le (hS k hk) h.size)⟩
theorem KeepS.putObj {S : Nat → Prop} (W : World) (l : Nat) (o' : Obj) (hl : ¬ S l) : KeepS S W (W.putObj l o') :=
  ⟨(grownBy_putObj' W l o').size, fun k hk => by
    by_cases h : k < W.heap.size
    · exact (grownBy_putObj' W l o').block k h (fun e => hl (by cases e; exact hk))
    · have h1 := (grownBy_putObj' W l o').size
      have : (W.putObj l o').heap.size = W.heap.size := by simp [World.putObj]
      rw [Array.getElem?_eq_none (by omega), Array.getElem?_eq_none (by omega)]⟩
theorem keepS_b {S : Nat → Prop} {n : Nat} (hS : ∀ k, S k → k < n) (W : World) (l : Nat) (o o' : Obj) (hl : n ≤ l) (_ : W.heap[l]? = some o) (_ : o.isCells = false) (_ : o.isWalk = false) : KeepS S W (W.putObj l o') :=
  KeepS.putObj W l o' fun h => by have := hS l h; omega

set_option maxRecDepth 100000 in
set_option maxHeartbeats 2000000 in
theorem valuesI_in (n : Nat) (hn : 1 ≤ n) (l Bs : Nat) (v : Value) (S : Nat → Prop) (zs : List Int) (hreach : zs.length ≤ 100000) (hb : ∀ g, v.ownBlock = some g → S g) (J Jx : List Int → World → Prop)
    (hY : ∀ pre x W, J pre W → pre.length < zs.length → YieldAt Fence.wide (n - 1) Try.prog l #[.int .i64 x] W fun e W' =>
      (e = .returned (.bool true) ∧ J (pre ++ [x]) W' ∧ KeepS S W W') ∨ (e = .returned (.bool false) ∧ Jx (pre ++ [x]) W'))
    (W : World) (hBs : W.cell? ⟨Bs, 0, none⟩ = some v) (hc : RdI W v zs) (h0 : J [] W) :
    CallsIn Fence.wide n Try.prog 60 #[.func (.yield l) #[] #[], .pointer (some ⟨Bs, 0, none⟩)] W fun e W' => (∃ v, e = .returned v) ∧
      (J zs W' ∨ (∃ pre, pre <+: zs ∧ Jx pre W')) := by
  obtain ⟨A, cp, rfl⟩ := hc.form
  refine callsIn_of_wp Try.func60 rfl trivial ?_ rfl
  simp only [Try.ntmps60, List.size_toArray, List.length_cons, List.length_nil, Nat.reduceAdd, Nat.reduceSub, Array.replicate_succ, Array.replicate_zero, List.push_toArray, List.append_toArray, List.nil_append, List.cons_append]
  gi_wp2
  gi_loopw [7] (fun i wr => ∃ k : Nat, k ≤ zs.length ∧ i = .int .i64 k ∧ J (zs.take k) wr ∧ KeepS S W wr)
    (fun i _ => zs.length - (intOf i).toNat)
  case atStart => exact ⟨0, Nat.zero_le _, rfl, h0, KeepS.refl _ _⟩
  case round =>
    obtain ⟨k, hk, rfl, hJk, hnx⟩ := hrel
    by_cases hlt : k < zs.length
    · obtain ⟨g, cap, he, hcell⟩ := hc.cell k zs[k] (List.getElem?_eq_getElem hlt)
      injection he with e1 _ e2
      subst e1
      subst e2
      have c0 : wr.cell? ⟨g, k, none⟩ = some (.int .i64 zs[k]) := (World.cell?_of_block (a := ⟨g, k, none⟩) (hnx.same g (hb g rfl))).trans hcell
      obtain ⟨fn, tmps, assign, body, hy, hR⟩ := hY _ zs[k] _ hJk (by rw [List.length_take]; omega)
      have HB := Lib.hid hnx
      have i1 : (k : Int) < (zs.length : Int) := by omega
      have i2 : (0 : Int) ≤ (k : Int) := by omega
      clear hnx hcell
      gi_wp2
      refine hR.mono ?_
      rintro e W3 (⟨rfl, hJ3, hk3⟩ | ⟨rfl, hJx3⟩)
      · gi_wp2
        go_roundw
        case rel => exact ⟨k + 1, by omega, by simp, by rw [List.take_succ_eq_append_getElem hlt]; exact hJ3, HB.out.trans hk3⟩
        case measure => simp [intOf]; omega
      · gi_wp2
        refine bodyPost_ret (results_none rfl _ _ _) rfl ?_
        exact ⟨⟨_, rfl⟩, .inr ⟨_, by rw [← List.take_succ_eq_append_getElem hlt]; exact List.take_prefix _ _, hJx3⟩⟩
    · obtain rfl : k = zs.length := by omega
      rw [List.take_length] at hJk
      gi_wp2
      go_end0
      exact ⟨⟨_, rfl⟩, .inl hJk⟩

/-- An iterator over ints. -/
theorem valuesI_stops (n : Nat) (hn : 1 ≤ n) (w : World) (q : Nat) (v : Value) (S : Nat → Prop) (zs : List Int) (hreach : zs.length ≤ 100000) (hv : Boxed w q 42 v) (hr : RdI w v zs) (hg : ∀ g, v.ownBlock = some g → S g) (hS : ∀ k, S k → k < w.heap.size) :
    SeqStopsK Fence.wide n Try.prog 60 #[.pointer (some ⟨q, 0, none⟩)] (fun x : Int => #[.int .i64 x]) (KeepS S) (fun ys => ys = zs) (fun pre => pre <+: zs) zs.length w := by
  intro l J Jx W hW _ _ hY hJ0
  have hW' : KeepS S w W := KeepS.below hW hS
  refine (valuesI_in n hn l q v S zs hreach hg J Jx hY W (by rw [hW.cell (p := ⟨q, 0, none⟩) hv.lt]; exact hv.cell) (hr.heap fun b hb => hW'.same b (hg b hb)) hJ0).mono ?_
  rintro e W' ⟨he, h | h⟩
  · exact ⟨he, .inl ⟨_, rfl, h⟩⟩
  · exact ⟨he, .inr h⟩
end Go.Proofs.Ytackjeckafoojaa.Kv
