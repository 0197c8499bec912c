/- Are two numbers such as calls are looked at? -/
import Derived.Test.YtackjeckafoojaaKvAwake
namespace Go.Proofs.Ytackjeckafoojaa.Kv
open Go.RowKit
attribute [local go_sem ↓] Kit.execOp_call_slot
attribute [local go_sem] Kit.callSlot_func

def okTwo (a b : Int) : Bool := decide (1 ≤ a) && decide (a ≤ 12) && decide (1 ≤ b) && decide (b ≤ 8)
theorem okTwo_true {a b : Int} (h : okTwo a b = true) : (1 ≤ a ∧ a ≤ 12) ∧ (1 ≤ b ∧ b ≤ 8) := by
  simp only [okTwo, Bool.and_eq_true, decide_eq_true_eq] at h
  omega
theorem right_run (W : World) (a b : Int) : Calls Try.prog 8 #[.agg #[.int .i64 a, .int .i64 b]] W fun e w' => e = .returned (.bool (okTwo a b)) ∧ w' = W.alloc (.cells #[.int .i64 a, .int .i64 b] 22) := by
  by_cases h1 : 1 ≤ a
  · by_cases h2 : a ≤ 12
    · by_cases h3 : 1 ≤ b
      · by_cases h4 : b ≤ 8
        · have e : okTwo a b = true := by simp [okTwo, h1, h2, h3, h4]
          rw [e]
          clear e
          go_enter Try.func8, Try.ntmps8
          go_wp2_with fail
          go_ret
          exact ⟨rfl, rfl⟩
        · have e : okTwo a b = false := by simp [okTwo, h4]
          have h4' : 8 < b := by omega
          rw [e]
          clear e
          go_enter Try.func8, Try.ntmps8
          go_wp2_with fail
          go_ret
          exact ⟨rfl, rfl⟩
      · have e : okTwo a b = false := by simp [okTwo, h3]
        have h3' : b < 1 := by omega
        rw [e]
        clear e
        go_enter Try.func8, Try.ntmps8
        go_wp2_with fail
        go_ret
        exact ⟨rfl, rfl⟩
    · have e : okTwo a b = false := by simp [okTwo, h2]
      have h2' : 12 < a := by omega
      rw [e]
      clear e
      go_enter Try.func8, Try.ntmps8
      go_wp2_with fail
      go_ret
      exact ⟨rfl, rfl⟩
  · have e : okTwo a b = false := by simp [okTwo, h1]
    have h1' : a < 1 := by omega
    rw [e]
    clear e
    go_enter Try.func8, Try.ntmps8
    go_wp2_with fail
    go_ret
    exact ⟨rfl, rfl⟩
end Go.Proofs.Ytackjeckafoojaa.Kv
