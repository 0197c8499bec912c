/- sha.turn's closure: a word turned. -/
import Derived.Test.YtplcjgpmainbnaaDoorProg
import Derived.Test.YtplcjgpmainbnaaDoorSha
import Derived.Test.YtplcjgpmainbnaaDoorKit
import Derived.KernelRfl
import Derived.BigQuiet
import Derived.Deep.QuietTactic
import Derived.Lib.Hide
import Derived.Outline
set_option linter.unusedVariables false
set_option linter.unusedSimpArgs false
namespace Go.Proofs.YtplcjgpmainbnaaDoor.ShaW
open Go.RowKit Sha Bits
theorem rot_bits (x : W32) (k : Nat) (a b : Int) (ha : a = 2 ^ k) (hb : b = 2 ^ (32 - k)) : bits .or .u32 (num x / a) (num x * b % 4294967296) = num (rot x k) := by
  subst ha hb
  have h1 := div_shr x k
  have h2 := wrap_shl x (32 - k)
  have h3 : IntKind.u32.wrap (num x * 2 ^ (32 - k)) = num x * 2 ^ (32 - k) % 4294967296 := rfl
  rw [h1, ← h3, h2, bits_or]
  rfl
theorem round_any (x : W32) (i : Int) (k : Nat) (h : i = k ∧ k ∈ [2, 6, 7, 11, 13, 17, 18, 19, 22, 25]) (W : World) : Calls Tryd.prog 61 #[.int .u32 (num x), .int .i64 i] W fun e w' => e = .returned (.int .u32 (num (rot x k))) ∧ ∃ n, w' = W.drewN n := by
  obtain ⟨rfl, h⟩ := h
  simp only [List.mem_cons, List.not_mem_nil, or_false] at h
  rcases h with rfl | rfl | rfl | rfl | rfl | rfl | rfl | rfl | rfl | rfl
  all_goals
    go_enter Tryd.func61, Tryd.ntmps61
    go_wp2_with fail
    go_quiet (fail)
    go_wp2_with fail
    go_ret
    exact ⟨congrArg (fun z => Ending.returned (.int .u32 z)) (rot_bits x _ _ _ (by decide) (by decide)), _, rfl⟩
theorem round_i (x : W32) (i : Int) (h : i ∈ ([2, 6, 7, 11, 13, 17, 18, 19, 22, 25] : List Int)) (W : World) : Calls Tryd.prog 61 #[.int .u32 (num x), .int .i64 i] W fun e w' => e = .returned (.int .u32 (num (rot x i.toNat))) ∧ ∃ n, w' = W.drewN n := by
  refine round_any x i i.toNat ?_ W
  simp only [List.mem_cons, List.not_mem_nil, or_false] at h
  rcases h with rfl | rfl | rfl | rfl | rfl | rfl | rfl | rfl | rfl | rfl <;> decide
end Go.Proofs.YtplcjgpmainbnaaDoor.ShaW
