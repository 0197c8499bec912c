/- The nil tree; a tree's root; Prove. -/
import Derived.Test.YtplcjgpmainbnaaDoorMkH
import Derived.Test.YtplcjgpmainbnaaDoorMkQ
set_option linter.unusedVariables false
set_option linter.unusedSimpArgs false
namespace Go.Proofs.YtplcjgpmainbnaaDoor.MkW
open Go.RowKit OwnS ShaW
attribute [local go_sem ↓] Kit.execOp_call_slot
attribute [local go_sem] Kit.callSlot_func
theorem check_nil (W : World) (i : Int) : Calls Tryd.prog 46 #[.pointer none, .int .i64 i] W fun e w' => e = .returned (.int .i64 2) ∧ w' = W := by
  go_enter Tryd.func46, Tryd.ntmps46
  go_wp2_with fail
  go_ret
  exact ⟨rfl, rfl⟩
theorem len_nil (W : World) : Calls Tryd.prog 27 #[.pointer none] W fun e w' => e = .returned (.int .i64 0) ∧ w' = W := by
  go_enter Tryd.func27, Tryd.ntmps27
  go_wp2_with fail
  go_ret
  exact ⟨rfl, rfl⟩
theorem get_nil (W : World) (i : Int) : Calls Tryd.prog 29 #[.pointer none, .int .i64 i] W fun e w' => e = .returned (.tuple #[.slice none 0 0, .int .i64 2]) ∧ w' = W := by
  go_enter Tryd.func29, Tryd.ntmps29
  go_wp2_with (first | (refine Calls.mono (check_nil _ _) ?_; rintro e w' ⟨rfl, rfl⟩))
  go_ret2
  exact ⟨rfl, rfl⟩
theorem prove_nil (W : World) (i : Int) : Calls Tryd.prog 30 #[.pointer none, .int .i64 i] W fun e w' => e = .returned (.tuple #[.slice none 0 0, .int .i64 2]) ∧ w' = W := by
  go_enter Tryd.func30, Tryd.ntmps30
  go_wp2_with (first | (refine Calls.mono (check_nil _ _) ?_; rintro e w' ⟨rfl, rfl⟩))
  go_ret2
  exact ⟨rfl, rfl⟩
theorem set_nil (W : World) (i : Int) (v : Value) : Calls Tryd.prog 28 #[.pointer none, .int .i64 i, v] W fun e w' => e = .returned (.int .i64 2) ∧ w' = W := by
  go_enter Tryd.func28, Tryd.ntmps28
  go_wp2_with (first | (refine Calls.mono (check_nil _ _) ?_; rintro e w' ⟨rfl, rfl⟩))
  go_ret
  exact ⟨rfl, rfl⟩
set_option maxRecDepth 100000 in
/-- The root of the nil tree. -/
theorem tree_root_nil (W : World) (hG : Glob W) : Calls Tryd.prog 31 #[.pointer none] W (SumPost W (rootN [])) := by
  obtain ⟨D, hD⟩ : ∃ D, D = rootN [] := ⟨_, rfl⟩
  rw [← hD]
  have hDl : D.length = 32 := by rw [hD]; exact (dig_root _ _ (Nat.le_refl _) (by simp)).1
  have H := Lib.hid (And.intro hG (And.intro hD hDl))
  clear hG hD hDl
  go_enter Tryd.func31, Tryd.ntmps31
  go_upto_region 1 with (fail)
  obtain ⟨w1, hw1⟩ : ∃ w1, w1 = W.alloc (.cells zero32.toArray 24) := ⟨_, rfl⟩
  change (Code.region _ _ _).wp _ _ _ (W.alloc (.cells zero32.toArray 24))
  rw [← hw1]
  have hR : Hid (Res W w1) := by rw [hw1]; exact Res.made W
  clear hw1
  have hc := root_of w1 (.slice none 0 0) [] (by simp) (H.out.1.new hR.out.below) ⟨Sees.nil _ _, by simp⟩
  rw [← H.out.2.1] at hc
  have HC := Lib.hid hc
  clear hc
  go_wp2_with (first | (go_at_call 35; (with_reducible refine Calls.mono HC.out ?_); rintro e w3 ⟨rfl, hb3⟩; have hR3 : Hid (Res W w3) := hR.out.new' hb3; clear hb3) | (refine wpList_store_dig rfl (.tmp 2) (.tmp 5) rfl W.heap.size rfl _ rfl H.out.2.2 zero32 hR3.out.blk zero32_length ?_))
  exact bodyPost_ret (ret_dig (by rfl) _ _ W.heap.size _ (by rfl) (hR3.out.back _) H.out.2.2) rfl ⟨rfl, hR3.out.done _⟩
set_option maxRecDepth 100000 in
/-- A tree's root. -/
theorem tree_root (W : World) (q : Nat) (lv v : Value) (ds : List (List Nat)) (hG : Glob W) (hq : W.heap[q]? = some (.cells #[lv, v] 80 (0, 0))) (h : DigsAt W v ds) (hn : ds.length ≤ 1000000) : Calls Tryd.prog 31 #[.pointer (some ⟨q, 0, none⟩)] W (SumPost W (rootN ds)) := by
  obtain ⟨A, c, rfl, -, -⟩ := h.form
  obtain ⟨D, hD⟩ : ∃ D, D = rootN ds := ⟨_, rfl⟩
  rw [← hD]
  have hDl : D.length = 32 := by rw [hD]; exact (dig_root _ _ (Nat.le_refl _) h.dig).1
  have H := Lib.hid (And.intro hG (And.intro hD (And.intro hDl (And.intro hq h))))
  clear hG hD hDl hq h
  go_enter Tryd.func31, Tryd.ntmps31
  go_upto_region 1 with (fail)
  obtain ⟨w1, hw1⟩ : ∃ w1, w1 = W.alloc (.cells zero32.toArray 24) := ⟨_, rfl⟩
  change (Code.region _ _ _).wp _ _ _ (W.alloc (.cells zero32.toArray 24))
  rw [← hw1]
  have hR : Hid (Res W w1) := by rw [hw1]; exact Res.made W
  clear hw1
  have hq1 : w1.heap[q]? = some (.cells #[lv, .slice A ds.length c] 80 (0, 0)) := (hR.out.below.block q (Array.getElem?_eq_some_iff.1 H.out.2.2.2.1).1).trans H.out.2.2.2.1
  have c1 : w1.cell? ⟨q, 1, none⟩ = some (.slice A ds.length c) := by rw [cell_of_row w1 q 1 _ _ _ hq1]; rfl
  have hc := root_of w1 (.slice A ds.length c) ds (by omega) (H.out.1.new hR.out.below) (H.out.2.2.2.2.new hR.out.below)
  rw [← H.out.2.1] at hc
  have HC := Lib.hid hc
  clear hc hq1
  go_wp2_with (first | (go_at_call 35; (with_reducible refine Calls.mono HC.out ?_); rintro e w3 ⟨rfl, hb3⟩; have hR3 : Hid (Res W w3) := hR.out.new' hb3; clear hb3) | (refine wpList_store_dig rfl (.tmp 2) (.tmp 10) rfl W.heap.size rfl _ rfl H.out.2.2.1 zero32 hR3.out.blk zero32_length ?_))
  exact bodyPost_ret (ret_dig (by rfl) _ _ W.heap.size _ (by rfl) (hR3.out.back _) H.out.2.2.1) rfl ⟨rfl, hR3.out.done _⟩
theorem rows_nil (W : World) : RowsAt W (.slice none 0 0) [] [] := ⟨Sees.nil _ _, by simp, by simp⟩
set_option maxRecDepth 100000 in
/-- A tree of no leaf. -/
theorem new_nil (W : World) (hG : Glob W) : Calls Tryd.prog 26 #[.slice none 0 0] W fun e w' => ∃ q lv v, e = .returned (.pointer (some ⟨q, 0, none⟩)) ∧ w'.heap[q]? = some (.cells #[lv, v] 80 (0, 0)) ∧ DigsAt w' v [] ∧ Below W.heap.size W w' := by
  have hc := digests_any W (.slice none 0 0) [] [] hG (rows_nil W) (by simp) (by simp)
  have HC := Lib.hid hc
  clear hc
  go_enter Tryd.func26, Tryd.ntmps26
  go_wp2_with (first | (go_at_call 36; (with_reducible refine Calls.mono HC.out ?_); rintro e w2 ⟨A2, c2, rfl, ho2, hb2⟩; have H2 := Lib.hid (And.intro ho2 hb2); clear ho2 hb2))
  go_loopw [12] (fun vi wr => vi = .int .i64 0 ∧ wr = w2.alloc (.cells #[.slice none 0 0, .slice A2 ([] : List (List Nat)).length c2] 80)) (fun vi _ => 0)
  case atStart => exact ⟨rfl, rfl⟩
  case round =>
    obtain ⟨rfl, rfl⟩ := hrel
    go_wp2_with fail
    go_ret
    refine ⟨_, _, _, rfl, heap_alloc_new w2 _, H2.out.1.digs.new ((Below.refl _ _).alloc (Nat.le_refl _) _), H2.out.2.alloc H2.out.2.size _⟩
end Go.Proofs.YtplcjgpmainbnaaDoor.MkW
