/- KvShares, walked. -/
import Derived.Test.YtackjeckafoojaaKvRow
import Derived.Test.YtackjeckafoojaaKvThings
import Derived.Test.YtackjeckafoojaaKvRight
namespace Go.Proofs.Ytackjeckafoojaa.KvI
open Go.RowKit Kv
attribute [local go_sem ↓] Kit.execOp_call_slot
attribute [local go_sem] Kit.callSlot_func

/-- A slice of ints among the arguments. -/
structure RdA (W : World) (v : Value) (xs : List Int) : Prop where
  form : ∃ A c, v = .slice A xs.length c
  cell : ∀ j x, xs[j]? = some x → ∃ ad cap, v = .slice (some ad) xs.length cap ∧ W.cell? (ad.add j) = some (.int .i64 x)

set_option maxRecDepth 100000 in
theorem shares_not (W : World) (a b c d : Int) (A0 : Option Addr) (n0 c0 : Nat) (A1 : Option Addr) (n1 c1 : Nat) (h : okTwo a b = false) :
    Calls Try.prog 4 #[.agg #[.int .i64 a, .int .i64 b], .agg #[.int .i64 c, .int .i64 d], .agg #[.slice A0 n0 c0, .slice A1 n1 c1]] W fun e w' => e = .returned (.bool true) ∧ Below W.heap.size W w' := by
  have HR := Lib.hid (fun w => right_run w a b)
  have HW := Lib.hid (((((Below.refl W.heap.size W).alloc (Nat.le_refl _) (.cells #[.int .i64 a, .int .i64 b] 22)).alloc (by simp) (.cells #[.int .i64 c, .int .i64 d] 22)).alloc (by simp; omega) (.cells #[.slice A0 n0 c0, .slice A1 n1 c1] 46)).alloc (by simp; omega) (.cells #[.int .i64 a, .int .i64 b] 22))
  go_enter Try.func4, Try.ntmps4
  go_wp2_with fail
  with_reducible refine Calls.mono (HR.out _) ?_
  rintro e w1 ⟨rfl, rfl⟩
  rw [h]
  go_wp2_with fail
  all_goals (with_reducible refine Calls.mono (KvB.awake_run _) ?_; rintro e w2 ⟨rfl, hb⟩; have HB := Lib.hid hb; clear hb; go_wp2_with fail; go_ret; exact ⟨rfl, HW.out.trans (HB.out.mono (by simp; omega))⟩)
set_option maxRecDepth 100000 in
theorem shares_c0 (W : World) (a b c d : Int) (A0 : Option Addr) (n0 c0 : Nat) (A1 : Option Addr) (n1 c1 : Nat) (hok : okTwo a b = true) (h : c < 0) :
    Calls Try.prog 4 #[.agg #[.int .i64 a, .int .i64 b], .agg #[.int .i64 c, .int .i64 d], .agg #[.slice A0 n0 c0, .slice A1 n1 c1]] W fun e w' => e = .returned (.bool true) ∧ Below W.heap.size W w' := by
  have g0 := hok
  have HR := Lib.hid (fun w => right_run w a b)
  have HW := Lib.hid (((((Below.refl W.heap.size W).alloc (Nat.le_refl _) (.cells #[.int .i64 a, .int .i64 b] 22)).alloc (by simp) (.cells #[.int .i64 c, .int .i64 d] 22)).alloc (by simp; omega) (.cells #[.slice A0 n0 c0, .slice A1 n1 c1] 46)).alloc (by simp; omega) (.cells #[.int .i64 a, .int .i64 b] 22))
  go_enter Try.func4, Try.ntmps4
  go_wp2_with fail
  with_reducible refine Calls.mono (HR.out _) ?_
  rintro e w1 ⟨rfl, rfl⟩
  rw [g0]
  go_wp2_with fail
  all_goals (with_reducible refine Calls.mono (KvB.awake_run _) ?_; rintro e w2 ⟨rfl, hb⟩; have HB := Lib.hid hb; clear hb; go_wp2_with fail; go_ret; exact ⟨rfl, HW.out.trans (HB.out.mono (by simp; omega))⟩)
set_option maxRecDepth 100000 in
theorem shares_c60 (W : World) (a b c d : Int) (A0 : Option Addr) (n0 c0 : Nat) (A1 : Option Addr) (n1 c1 : Nat) (hok : okTwo a b = true ∧ 0 ≤ c) (h : 60 < c) :
    Calls Try.prog 4 #[.agg #[.int .i64 a, .int .i64 b], .agg #[.int .i64 c, .int .i64 d], .agg #[.slice A0 n0 c0, .slice A1 n1 c1]] W fun e w' => e = .returned (.bool true) ∧ Below W.heap.size W w' := by
  obtain ⟨g0, g1⟩ := hok
  have HR := Lib.hid (fun w => right_run w a b)
  have HW := Lib.hid (((((Below.refl W.heap.size W).alloc (Nat.le_refl _) (.cells #[.int .i64 a, .int .i64 b] 22)).alloc (by simp) (.cells #[.int .i64 c, .int .i64 d] 22)).alloc (by simp; omega) (.cells #[.slice A0 n0 c0, .slice A1 n1 c1] 46)).alloc (by simp; omega) (.cells #[.int .i64 a, .int .i64 b] 22))
  go_enter Try.func4, Try.ntmps4
  go_wp2_with fail
  with_reducible refine Calls.mono (HR.out _) ?_
  rintro e w1 ⟨rfl, rfl⟩
  rw [g0]
  go_wp2_with fail
  all_goals (with_reducible refine Calls.mono (KvB.awake_run _) ?_; rintro e w2 ⟨rfl, hb⟩; have HB := Lib.hid hb; clear hb; go_wp2_with fail; go_ret; exact ⟨rfl, HW.out.trans (HB.out.mono (by simp; omega))⟩)
set_option maxRecDepth 100000 in
theorem shares_d0 (W : World) (a b c d : Int) (A0 : Option Addr) (n0 c0 : Nat) (A1 : Option Addr) (n1 c1 : Nat) (hok : okTwo a b = true ∧ 0 ≤ c ∧ c ≤ 60) (h : d < 0) :
    Calls Try.prog 4 #[.agg #[.int .i64 a, .int .i64 b], .agg #[.int .i64 c, .int .i64 d], .agg #[.slice A0 n0 c0, .slice A1 n1 c1]] W fun e w' => e = .returned (.bool true) ∧ Below W.heap.size W w' := by
  obtain ⟨g0, g1, g2⟩ := hok
  have HR := Lib.hid (fun w => right_run w a b)
  have HW := Lib.hid (((((Below.refl W.heap.size W).alloc (Nat.le_refl _) (.cells #[.int .i64 a, .int .i64 b] 22)).alloc (by simp) (.cells #[.int .i64 c, .int .i64 d] 22)).alloc (by simp; omega) (.cells #[.slice A0 n0 c0, .slice A1 n1 c1] 46)).alloc (by simp; omega) (.cells #[.int .i64 a, .int .i64 b] 22))
  go_enter Try.func4, Try.ntmps4
  go_wp2_with fail
  with_reducible refine Calls.mono (HR.out _) ?_
  rintro e w1 ⟨rfl, rfl⟩
  rw [g0]
  go_wp2_with fail
  all_goals (with_reducible refine Calls.mono (KvB.awake_run _) ?_; rintro e w2 ⟨rfl, hb⟩; have HB := Lib.hid hb; clear hb; go_wp2_with fail; go_ret; exact ⟨rfl, HW.out.trans (HB.out.mono (by simp; omega))⟩)
set_option maxRecDepth 100000 in
theorem shares_dc (W : World) (a b c d : Int) (A0 : Option Addr) (n0 c0 : Nat) (A1 : Option Addr) (n1 c1 : Nat) (hok : okTwo a b = true ∧ 0 ≤ c ∧ c ≤ 60 ∧ 0 ≤ d) (h : c < d) :
    Calls Try.prog 4 #[.agg #[.int .i64 a, .int .i64 b], .agg #[.int .i64 c, .int .i64 d], .agg #[.slice A0 n0 c0, .slice A1 n1 c1]] W fun e w' => e = .returned (.bool true) ∧ Below W.heap.size W w' := by
  obtain ⟨g0, g1, g2, g3⟩ := hok
  have HR := Lib.hid (fun w => right_run w a b)
  have HW := Lib.hid (((((Below.refl W.heap.size W).alloc (Nat.le_refl _) (.cells #[.int .i64 a, .int .i64 b] 22)).alloc (by simp) (.cells #[.int .i64 c, .int .i64 d] 22)).alloc (by simp; omega) (.cells #[.slice A0 n0 c0, .slice A1 n1 c1] 46)).alloc (by simp; omega) (.cells #[.int .i64 a, .int .i64 b] 22))
  go_enter Try.func4, Try.ntmps4
  go_wp2_with fail
  with_reducible refine Calls.mono (HR.out _) ?_
  rintro e w1 ⟨rfl, rfl⟩
  rw [g0]
  go_wp2_with fail
  all_goals (with_reducible refine Calls.mono (KvB.awake_run _) ?_; rintro e w2 ⟨rfl, hb⟩; have HB := Lib.hid hb; clear hb; go_wp2_with fail; go_ret; exact ⟨rfl, HW.out.trans (HB.out.mono (by simp; omega))⟩)
set_option maxRecDepth 100000 in
theorem shares_l0 (W : World) (a b c d : Int) (A0 : Option Addr) (n0 c0 : Nat) (A1 : Option Addr) (n1 c1 : Nat) (hok : okTwo a b = true ∧ 0 ≤ c ∧ c ≤ 60 ∧ 0 ≤ d ∧ d ≤ c) (h : (20 : Int) < (n0 : Int)) :
    Calls Try.prog 4 #[.agg #[.int .i64 a, .int .i64 b], .agg #[.int .i64 c, .int .i64 d], .agg #[.slice A0 n0 c0, .slice A1 n1 c1]] W fun e w' => e = .returned (.bool true) ∧ Below W.heap.size W w' := by
  obtain ⟨g0, g1, g2, g3, g4⟩ := hok
  have HR := Lib.hid (fun w => right_run w a b)
  have HW := Lib.hid (((((Below.refl W.heap.size W).alloc (Nat.le_refl _) (.cells #[.int .i64 a, .int .i64 b] 22)).alloc (by simp) (.cells #[.int .i64 c, .int .i64 d] 22)).alloc (by simp; omega) (.cells #[.slice A0 n0 c0, .slice A1 n1 c1] 46)).alloc (by simp; omega) (.cells #[.int .i64 a, .int .i64 b] 22))
  go_enter Try.func4, Try.ntmps4
  go_wp2_with fail
  with_reducible refine Calls.mono (HR.out _) ?_
  rintro e w1 ⟨rfl, rfl⟩
  rw [g0]
  go_wp2_with fail
  all_goals (with_reducible refine Calls.mono (KvB.awake_run _) ?_; rintro e w2 ⟨rfl, hb⟩; have HB := Lib.hid hb; clear hb; go_wp2_with fail; go_ret; exact ⟨rfl, HW.out.trans (HB.out.mono (by simp; omega))⟩)
set_option maxRecDepth 100000 in
theorem shares_l1 (W : World) (a b c d : Int) (A0 : Option Addr) (n0 c0 : Nat) (A1 : Option Addr) (n1 c1 : Nat) (hok : okTwo a b = true ∧ 0 ≤ c ∧ c ≤ 60 ∧ 0 ≤ d ∧ d ≤ c ∧ (n0 : Int) ≤ 20) (h : (20 : Int) < (n1 : Int)) :
    Calls Try.prog 4 #[.agg #[.int .i64 a, .int .i64 b], .agg #[.int .i64 c, .int .i64 d], .agg #[.slice A0 n0 c0, .slice A1 n1 c1]] W fun e w' => e = .returned (.bool true) ∧ Below W.heap.size W w' := by
  obtain ⟨g0, g1, g2, g3, g4, g5⟩ := hok
  have HR := Lib.hid (fun w => right_run w a b)
  have HW := Lib.hid (((((Below.refl W.heap.size W).alloc (Nat.le_refl _) (.cells #[.int .i64 a, .int .i64 b] 22)).alloc (by simp) (.cells #[.int .i64 c, .int .i64 d] 22)).alloc (by simp; omega) (.cells #[.slice A0 n0 c0, .slice A1 n1 c1] 46)).alloc (by simp; omega) (.cells #[.int .i64 a, .int .i64 b] 22))
  go_enter Try.func4, Try.ntmps4
  go_wp2_with fail
  with_reducible refine Calls.mono (HR.out _) ?_
  rintro e w1 ⟨rfl, rfl⟩
  rw [g0]
  go_wp2_with fail
  all_goals (with_reducible refine Calls.mono (KvB.awake_run _) ?_; rintro e w2 ⟨rfl, hb⟩; have HB := Lib.hid hb; clear hb; go_wp2_with fail; go_ret; exact ⟨rfl, HW.out.trans (HB.out.mono (by simp; omega))⟩)
end Go.Proofs.Ytackjeckafoojaa.KvI
