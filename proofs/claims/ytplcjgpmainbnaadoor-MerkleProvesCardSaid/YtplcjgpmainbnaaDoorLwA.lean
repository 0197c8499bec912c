/- The law's helpers: Few, Digests. · The law's helper Digests. -/
import Derived.Test.YtplcjgpmainbnaaDoorMkP
import Derived.Test.YtplcjgpmainbnaaDoorMkQ
set_option linter.unusedVariables false
set_option linter.unusedSimpArgs false
namespace Go.Proofs.YtplcjgpmainbnaaDoor.MkW
open Go.RowKit OwnS ShaW RevL
attribute [local go_sem ↓] Kit.execOp_call_slot
attribute [local go_sem] Kit.callSlot_func
def few (ls : List (List Nat)) : Bool := (ls.all fun l => decide (l.length ≤ 100)) && decide (ls.length ≤ 20)
theorem few_of {ls : List (List Nat)} (h : few ls = true) : ls.length ≤ 20 ∧ ∀ l ∈ ls, l.length ≤ 100 := by
  simp only [few, Bool.and_eq_true, decide_eq_true_eq, List.all_eq_true] at h
  exact ⟨h.2, h.1⟩
set_option maxRecDepth 100000 in
theorem few_any (W : World) (v : Value) (hs : List Value) (ls : List (List Nat)) (h : RowsAt W v hs ls) : Calls Tryd.prog 10 #[v] W fun e w' => e = .returned (.bool (few ls)) ∧ Below W.heap.size W w' := by
  obtain ⟨A, c, rfl, hlc, hcm⟩ := h.sees.form
  have hm : ls.length ≤ maxLen := by omega
  unfold maxLen at hm
  have H := Lib.hid h
  clear h
  go_enter Tryd.func10, Tryd.ntmps10
  go_wp2_with fail
  go_loopw [3] (fun vi wr => ∃ i : Nat, i ≤ ls.length ∧ vi = .int .i64 i ∧ Hid (∀ l ∈ ls.take i, l.length ≤ 100) ∧ wr = W) (fun vi _ => ls.length - (intOf vi).toNat)
  case atStart => exact ⟨0, Nat.zero_le _, rfl, Lib.hid (fun l hl => by simp at hl), rfl⟩
  case round =>
    obtain ⟨i, hi, rfl, hI, rfl⟩ := hrel
    by_cases hlt : i < ls.length
    · obtain ⟨l, g, o, cap, A', c', hl', hv, hc, hse⟩ := H.out.cell hlt
      injection hv with e1 e2 e3
      subst e1 e3
      clear e2
      have HL := Lib.hid hl'
      clear hl' hse
      by_cases hb : 100 < l.length
      · have hb' : (100 : Int) < (l.length : Int) := by omega
        go_wp2_with fail
        go_ret
        refine ⟨?_, Below.refl _ _⟩
        have : few ls = false := by
          cases hf : few ls with
          | false => rfl
          | true => have := (few_of hf).2 l (List.mem_of_getElem? HL.out); omega
        rw [this]
        rfl
      · have hb' : ¬ (100 : Int) < (l.length : Int) := by omega
        go_wp2_with fail
        go_roundw
        case rel =>
          refine ⟨i + 1, by omega, by go_num, ?_, trivial⟩
          intro x hx
          obtain ⟨hi', rfl⟩ := List.getElem?_eq_some_iff.1 HL.out
          rw [List.take_succ_eq_append_getElem hi'] at hx
          rcases List.mem_append.1 hx with hx | hx
          · exact hI.out x hx
          · rw [List.mem_singleton.1 hx]; omega
        case measure => simp [intOf]; omega
    · have hge : ¬ (i : Int) < (ls.length : Int) := by omega
      obtain rfl : i = ls.length := by omega
      have hall := hI.out
      rw [List.take_length] at hall
      have HA := Lib.hid hall
      clear hall
      go_wp2_with fail
      go_ret
      refine ⟨?_, Below.refl _ _⟩
      have e1 : (ls.all fun l => decide (l.length ≤ 100)) = true := List.all_eq_true.2 fun l hl => decide_eq_true (HA.out l hl)
      have e2 : decide ((ls.length : Int) ≤ 20) = decide (ls.length ≤ 20) := by congr 1; exact propext ⟨fun h => by omega, fun h => by omega⟩
      unfold few
      rw [e1, Bool.true_and]
      simp [e2]
end Go.Proofs.YtplcjgpmainbnaaDoor.MkW
set_option linter.unusedVariables false
set_option linter.unusedSimpArgs false
namespace Go.Proofs.YtplcjgpmainbnaaDoor.MkW
open Go.RowKit OwnS ShaW RevL
attribute [local go_sem ↓] Kit.execOp_call_slot
attribute [local go_sem] Kit.callSlot_func
set_option maxRecDepth 100000 in
set_option maxHeartbeats 1000000 in
/-- The same digests: yes. -/
theorem digests_same (W : World) (v v' : Value) (ds : List (List Nat)) (h : DigsAt W v ds) (h' : DigsAt W v' ds) : Calls Tryd.prog 19 #[v, v'] W fun e w' => e = .returned (.bool true) ∧ Below W.heap.size W w' := by
  obtain ⟨A, c, rfl, hlc, hcm⟩ := h.form
  obtain ⟨A', c', rfl, hlc', hcm'⟩ := h'.form
  have hm : ds.length ≤ maxLen := by omega
  unfold maxLen at hm
  have H := Lib.hid (And.intro h h')
  clear h h'
  go_enter Tryd.func19, Tryd.ntmps19
  go_wp2_with fail
  go_loopw [5] (fun vi wr => ∃ i : Nat, i ≤ ds.length ∧ vi = .int .i64 i ∧ Hid (Below W.heap.size W wr)) (fun vi _ => ds.length - (intOf vi).toNat)
  case atStart => exact ⟨0, Nat.zero_le _, rfl, Lib.hid (Below.refl _ _)⟩
  case round =>
    obtain ⟨i, hi, rfl, hI⟩ := hrel
    by_cases hlt : i < ds.length
    · obtain ⟨d, g, o, cap, hd, dd, hv, hcap, hr⟩ := (H.out.1.new hI.out).cell hlt
      obtain ⟨d2, g2, o2, cap2, hd2, dd2, hv2, hcap2, hr2⟩ := (H.out.2.new hI.out).cell hlt
      rw [hd] at hd2
      injection hd2 with hd2
      subst hd2
      injection hv with e1 _ e3
      injection hv2 with k1 _ k3
      subst e1 e3 k1 k3
      have q1 : ∀ w, (binOp .neq 24 (digV d) (digV d)).run Tryd.prog w = .ok (.bool false) w := fun w => by rw [run_neq_dig w d d dd dd, decide_eq_true rfl]; rfl
      have q4 : ∀ op x y w c d, (eqGuard op 24 x y (digV c) (digV d)).run Tryd.prog w = .ok () w := fun op x y w c d => run_guard_dig op x y w c d
      have HR := Lib.hid (And.intro hr (And.intro hr2 dd.1))
      clear hr hr2 hd dd dd2
      go_wp2_with fail
      refine wp_region_quiet_lit (by kernel_rfl) (by kernel_rfl) ?_
      repeat (first | (refine wpQuiet_load_dig rfl (.tmp 19) rfl g (o + i * 32) rfl d HR.out.2.2 (by rintro _ ⟨n, rfl⟩; exact HR.out.1) ?_; simp only [Act.put, List.setIfInBounds_toArray, List.set_cons_succ, List.set_cons_zero]) | (refine wpQuiet_load_dig rfl (.tmp 23) rfl g2 (o2 + i * 32) rfl d HR.out.2.2 (by rintro _ ⟨n, rfl⟩; exact HR.out.2.1) ?_; simp only [Act.put, List.setIfInBounds_toArray, List.set_cons_succ, List.set_cons_zero]) | go_big_quiet_step (fail))
      refine wpQuiet_nil ?_
      intro _ hw'
      obtain ⟨nr, hw''⟩ := hw'
      subst hw''
      go_wp2_with fail
      go_roundw
      case rel => exact ⟨i + 1, by omega, by go_num, Lib.hid ⟨hI.out.os, hI.out.tape, hI.out.output, hI.out.size, hI.out.block⟩⟩
      case measure => simp [intOf]; omega
    · have hge : ¬ (i : Int) < (ds.length : Int) := by omega
      go_wp2_with fail
      go_ret
      exact ⟨rfl, hI.out⟩
end Go.Proofs.YtplcjgpmainbnaaDoor.MkW
