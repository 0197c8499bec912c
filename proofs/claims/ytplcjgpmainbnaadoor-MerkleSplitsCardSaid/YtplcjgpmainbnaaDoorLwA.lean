/- The law's helpers: Few, Digests. -/
import Derived.Test.YtplcjgpmainbnaaDoorMkP
import Derived.Test.YtplcjgpmainbnaaDoorMkQ
set_option linter.unusedVariables false
set_option linter.unusedSimpArgs false
namespace Go.Proofs.YtplcjgpmainbnaaDoor.MkW
open Go.RowKit OwnS ShaW RevL
attribute [local go_sem ↓] Kit.execOp_call_slot
attribute [local go_sem] Kit.callSlot_func
def few (ls : List (List Nat)) : Bool := (ls.all fun l => decide (l.length ≤ 100)) && decide (ls.length ≤ 20)
theorem few_of {ls : List (List Nat)} (h : few ls = true) : ls.length ≤ 20 ∧ ∀ l ∈ ls, l.length ≤ 100 := by
  simp only [few, Bool.and_eq_true, decide_eq_true_eq, List.all_eq_true] at h
  exact ⟨h.2, h.1⟩
set_option maxRecDepth 100000 in
theorem few_any (W : World) (v : Value) (hs : List Value) (ls : List (List Nat)) (h : RowsAt W v hs ls) : Calls Tryd.prog 10 #[v] W fun e w' => e = .returned (.bool (few ls)) ∧ Below W.heap.size W w' := by
  obtain ⟨A, c, rfl, hlc, hcm⟩ := h.sees.form
  have hm : ls.length ≤ maxLen := by omega
  unfold maxLen at hm
  have H := Lib.hid h
  clear h
  go_enter Tryd.func10, Tryd.ntmps10
  go_wp2_with fail
  go_loopw [3] (fun vi wr => ∃ i : Nat, i ≤ ls.length ∧ vi = .int .i64 i ∧ Hid (∀ l ∈ ls.take i, l.length ≤ 100) ∧ wr = W) (fun vi _ => ls.length - (intOf vi).toNat)
  case atStart => exact ⟨0, Nat.zero_le _, rfl, Lib.hid (fun l hl => by simp at hl), rfl⟩
  case round =>
    obtain ⟨i, hi, rfl, hI, rfl⟩ := hrel
    by_cases hlt : i < ls.length
    · obtain ⟨l, g, o, cap, A', c', hl', hv, hc, hse⟩ := H.out.cell hlt
      injection hv with e1 e2 e3
      subst e1 e3
      clear e2
      have HL := Lib.hid hl'
      clear hl' hse
      by_cases hb : 100 < l.length
      · have hb' : (100 : Int) < (l.length : Int) := by omega
        go_wp2_with fail
        go_ret
        refine ⟨?_, Below.refl _ _⟩
        have : few ls = false := by
          cases hf : few ls with
          | false => rfl
          | true => have := (few_of hf).2 l (List.mem_of_getElem? HL.out); omega
        rw [this]
        rfl
      · have hb' : ¬ (100 : Int) < (l.length : Int) := by omega
        go_wp2_with fail
        go_roundw
        case rel =>
          refine ⟨i + 1, by omega, by go_num, ?_, trivial⟩
          intro x hx
          obtain ⟨hi', rfl⟩ := List.getElem?_eq_some_iff.1 HL.out
          rw [List.take_succ_eq_append_getElem hi'] at hx
          rcases List.mem_append.1 hx with hx | hx
          · exact hI.out x hx
          · rw [List.mem_singleton.1 hx]; omega
        case measure => simp [intOf]; omega
    · have hge : ¬ (i : Int) < (ls.length : Int) := by omega
      obtain rfl : i = ls.length := by omega
      have hall := hI.out
      rw [List.take_length] at hall
      have HA := Lib.hid hall
      clear hall
      go_wp2_with fail
      go_ret
      refine ⟨?_, Below.refl _ _⟩
      have e1 : (ls.all fun l => decide (l.length ≤ 100)) = true := List.all_eq_true.2 fun l hl => decide_eq_true (HA.out l hl)
      have e2 : decide ((ls.length : Int) ≤ 20) = decide (ls.length ≤ 20) := by congr 1; exact propext ⟨fun h => by omega, fun h => by omega⟩
      unfold few
      rw [e1, Bool.true_and]
      simp [e2]
end Go.Proofs.YtplcjgpmainbnaaDoor.MkW
