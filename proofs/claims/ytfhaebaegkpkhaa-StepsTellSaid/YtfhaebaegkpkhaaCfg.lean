import Derived.Test.YtfhaebaegkpkhaaProg
import Derived.WalkKit
import Derived.KernelRfl
import Derived.BigQuiet
import Derived.BigGuardPart
import Derived.Deep.QuietTactic
import Derived.Deep.CutBlock
import Derived.Deep.DeepCutAuto
import Derived.Deep.AppendLies
import Derived.Outline
import Derived.RangeFuncBox
import Derived.Lib.Hide
import Derived.Test.YtfhaebaegkpkhaaKit
namespace Go.Proofs.Ytfhaebaegkpkhaa.Cfg
open Go.RowKit
attribute [local go_sem ↓] Kit.execOp_call_slot
attribute [local go_sem] Kit.callSlot_func

def chkB (n lo hi : Int) : Bool := decide (lo ≤ n) && decide (n ≤ hi)

theorem chkB_of {n lo hi : Int} (h : chkB n lo hi = true) : lo ≤ n ∧ n ≤ hi := by
  simpa [chkB] using h

theorem in_any (n lo hi : Int) (w : World) :
    Calls Try.prog 98 #[.int .i64 n, .int .i64 lo, .int .i64 hi] w fun e w' => e = .returned (.bool (chkB n lo hi)) ∧ w = w' := by
  go_enter Try.func98, Try.ntmps98
  go_wp2_with fail
  · go_ret
    exact ⟨by simp [chkB, *], rfl⟩
  · go_ret
    have : n < lo := by assumption
    exact ⟨by simp [chkB]; omega, rfl⟩

structure C6 where
  v : Int
  d : Int
  h : Int
  l : Int
  c : Int
  x : Int

def C6.cells (c : C6) : List Value := [.int .i64 c.v, .int .i64 c.d, .int .i64 c.h, .int .i64 c.l, .int .i64 c.c, .int .i64 c.x]
def C6.range (c : C6) : Bool := chkB c.v 1 512 && (chkB c.d 2 64 && (chkB c.h 1 8 && (chkB c.l 1 4 && (chkB c.c 1 64 && chkB c.x 1 64))))
def C6.chk (c : C6) : Int := if c.range then (if c.d % (2 * c.h) = 0 then 0 else 13) else 10

set_option maxHeartbeats 4000000 in
set_option maxRecDepth 100000 in

theorem check_any (c : C6) (w : World) :
    Calls Try.prog 58 #[.agg #[.int .i64 c.v, .int .i64 c.d, .int .i64 c.h, .int .i64 c.l, .int .i64 c.c, .int .i64 c.x]] w fun e w' => e = .returned (.int .i64 c.chk) ∧ Below w.heap.size w w' := by
  obtain ⟨v, d, h, l, cx, x⟩ := c
  dsimp only
  have hb : ∀ o, Below w.heap.size w (w.alloc o) := fun o => (Below.refl _ _).alloc (Nat.le_refl _) o
  by_cases h1 : (chkB v 1 512 = true ∧ chkB d 2 64 = true ∧ chkB h 1 8 = true) ∧ (chkB l 1 4 = true ∧ chkB cx 1 64 = true ∧ chkB x 1 64 = true)
  · obtain ⟨⟨g1, g2, g3⟩, g4, g5, g6⟩ := h1
    have b2 := chkB_of g2
    have b3 := chkB_of g3
    have hz : ((h : Int) * 2 == 0) = false := by simp; omega
    have hz2 : ((2 : Int) * h == 0) = false := by simp; omega
    have e1 : C6.chk ⟨v, d, h, l, cx, x⟩ = if d % (2 * h) = 0 then 0 else 13 := by simp [C6.chk, C6.range, *]
    have HE := Lib.hid e1
    clear e1
    go_enter Try.func58, Try.ntmps58
    go_wp2_with (go_at_call 98; refine (in_any _ _ _ _).mono ?_; rintro e w' ⟨rfl, rfl⟩)
    · have hd : (d % (2 * h) != 0) = true := by assumption
      go_ret
      exact ⟨by rw [HE.out, if_neg (by simpa using hd)]; rfl, hb _⟩
    · have hd : (d % (2 * h) != 0) = false := by assumption
      go_ret
      exact ⟨by rw [HE.out, if_pos (by simpa using hd)]; rfl, hb _⟩
  · have e1 : C6.chk ⟨v, d, h, l, cx, x⟩ = 10 := by
      have : C6.range ⟨v, d, h, l, cx, x⟩ = false := by
        rw [Bool.eq_false_iff]
        intro hh
        simp only [C6.range, Bool.and_eq_true] at hh
        exact h1 ⟨⟨hh.1, hh.2.1, hh.2.2.1⟩, hh.2.2.2.1, hh.2.2.2.2.1, hh.2.2.2.2.2⟩
      simp [C6.chk, this]
    have HE := Lib.hid e1
    clear e1
    cases g0 : chkB v 1 512
    · clear h1
      go_enter Try.func58, Try.ntmps58
      go_wp2_with (go_at_call 98; refine (in_any _ _ _ _).mono ?_; rintro e w' ⟨rfl, rfl⟩)
      go_ret
      exact ⟨by rw [HE.out]; rfl, hb _⟩
    · skip
      cases g1 : chkB d 2 64
      · clear h1
        go_enter Try.func58, Try.ntmps58
        go_wp2_with (go_at_call 98; refine (in_any _ _ _ _).mono ?_; rintro e w' ⟨rfl, rfl⟩)
        go_ret
        exact ⟨by rw [HE.out]; rfl, hb _⟩
      · skip
        cases g2 : chkB h 1 8
        · clear h1
          go_enter Try.func58, Try.ntmps58
          go_wp2_with (go_at_call 98; refine (in_any _ _ _ _).mono ?_; rintro e w' ⟨rfl, rfl⟩)
          go_ret
          exact ⟨by rw [HE.out]; rfl, hb _⟩
        · skip
          cases g3 : chkB l 1 4
          · clear h1
            go_enter Try.func58, Try.ntmps58
            go_wp2_with (go_at_call 98; refine (in_any _ _ _ _).mono ?_; rintro e w' ⟨rfl, rfl⟩)
            go_ret
            exact ⟨by rw [HE.out]; rfl, hb _⟩
          · skip
            cases g4 : chkB cx 1 64
            · clear h1
              go_enter Try.func58, Try.ntmps58
              go_wp2_with (go_at_call 98; refine (in_any _ _ _ _).mono ?_; rintro e w' ⟨rfl, rfl⟩)
              go_ret
              exact ⟨by rw [HE.out]; rfl, hb _⟩
            · skip
              cases g5 : chkB x 1 64
              · clear h1
                go_enter Try.func58, Try.ntmps58
                go_wp2_with (go_at_call 98; refine (in_any _ _ _ _).mono ?_; rintro e w' ⟨rfl, rfl⟩)
                go_ret
                exact ⟨by rw [HE.out]; rfl, hb _⟩
              · exact absurd ⟨⟨g0, g1, g2⟩, g3, g4, g5⟩ h1
end Go.Proofs.Ytfhaebaegkpkhaa.Cfg
