/- The reference's sha: its constants. -/
import Derived.Test.YtplcjgpmainbnaaDoorRsB
set_option linter.unusedVariables false
set_option linter.unusedSimpArgs false
namespace Go.Proofs.YtplcjgpmainbnaaDoor.RsW
open Go.RowKit Sha Bits OwnS ShaW
attribute [local go_sem ↓] Kit.execOp_call_slot
attribute [local go_sem] Kit.callSlot_func
def intsV (l : List Nat) : List Value := l.map fun n : Nat => .int .i64 (n : Int)
theorem intsV_length (l : List Nat) : (intsV l).length = l.length := List.length_map _
def kN : List Nat := consts.map (·.toNat)
theorem kN_length : kN.length = 64 := rfl
theorem intsV_one (l : List Nat) : ∀ u ∈ intsV l, u.oneCell' = true := fun u hu => by
  obtain ⟨n, -, rfl⟩ := List.mem_map.1 hu
  rfl
theorem row64_size : (Tryd.prog.info? 98).map (·.size) = some 64 := by kernel_rfl
theorem row8_size : (Tryd.prog.info? 85).map (·.size) = some 8 := by kernel_rfl
section
variable {w : World} {ops : Array Oper} {rest : List Oper} {o : Oper} {a : Act} {Q : Exit → Act → World → Prop}
/-- A row of numbers is stored whole. -/
theorem wpList_store_ints (T : TypeId) (N : Nat) (hsz : (Tryd.prog.info? T).map (·.size) = some N) (hgd : o.guard = none) (x y : Operand) (ho : o.op = .store T x y) (g : Nat) (hx : a.eval x = .pointer (some ⟨g, 0, none⟩)) (L : List Nat) (hy : a.eval y = .agg (intsV L).toArray) (hL : L.length = N)
    (D0 : List Value) (hg : w.heap[g]? = some (.cells D0.toArray T (0, 0))) (h0 : D0.length = N) (h : wpList Tryd.prog ops Q rest (a.put o.dst undef) (w.setRow g (intsV L).toArray)) : wpList Tryd.prog ops Q (o :: rest) a w :=
  wpList_store_row hgd T x y ho g (intsV L).toArray hx hy T D0.toArray hg (by rw [hsz, List.size_toArray, intsV_length, hL]) (by rw [List.size_toArray, List.size_toArray, h0, intsV_length, hL]) (all_oneCell_toArray (intsV_one L)) h
end
def zero64 : List Value := List.replicate 64 (.int .i64 0)
set_option maxRecDepth 100000 in
set_option maxHeartbeats 4000000 in
theorem constants_any (W : World) : Calls Tryd.prog 60 #[] W fun e w' => e = .returned (.agg (intsV kN).toArray) ∧ Below W.heap.size W w' := by
  obtain ⟨K, hK⟩ : ∃ K, K = intsV kN := ⟨_, rfl⟩
  have HK := Lib.hid hK
  rw [← hK]
  clear hK
  go_enter Tryd.func60, Tryd.ntmps60
  go_upto_region 1 with (fail)
  change Code.wp _ _ _ _ (W.alloc (.cells zero64.toArray 98))
  obtain ⟨w1, hw1⟩ : ∃ w1, w1 = W.alloc (.cells zero64.toArray 98) := ⟨_, rfl⟩
  rw [← hw1]
  have hb1 : Below W.heap.size W w1 := by rw [hw1]; exact (Below.refl _ _).alloc (Nat.le_refl _) _
  have hblk : w1.heap[W.heap.size]? = some (.cells zero64.toArray 98 (0, 0)) := by rw [hw1]; exact heap_alloc_new _ _
  have H1 := Lib.hid (And.intro hb1 hblk)
  clear hb1 hblk hw1
  go_wp2_with (refine wpList_store_ints 98 64 row64_size rfl (.tmp 0) (.tmp 1) rfl W.heap.size rfl kN (by kernel_rfl) kN_length zero64 H1.out.2 rfl ?_)
  refine bodyPost_ret (results_cell_row (by rfl) _ _ W.heap.size 98 (intsV kN).toArray (0, 0) _ (by rfl) (setRow_heap _ _ _ _ _ _ H1.out.2) Tryd.underlying98 (by rfl) (by rw [List.size_toArray, intsV_length, kN_length]; exact row64_size)) rfl ⟨by rw [HK.out], below_setRow H1.out.1 _ _ (Nat.le_refl _)⟩
end Go.Proofs.YtplcjgpmainbnaaDoor.RsW
