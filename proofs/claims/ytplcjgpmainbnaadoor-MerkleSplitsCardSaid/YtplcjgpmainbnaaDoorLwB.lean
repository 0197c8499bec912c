/- The law's helper Digests. -/
import Derived.Test.YtplcjgpmainbnaaDoorLwA
set_option linter.unusedVariables false
set_option linter.unusedSimpArgs false
namespace Go.Proofs.YtplcjgpmainbnaaDoor.MkW
open Go.RowKit OwnS ShaW RevL
attribute [local go_sem ↓] Kit.execOp_call_slot
attribute [local go_sem] Kit.callSlot_func
set_option maxRecDepth 100000 in
set_option maxHeartbeats 1000000 in
/-- The same digests: yes. -/
theorem digests_same (W : World) (v v' : Value) (ds : List (List Nat)) (h : DigsAt W v ds) (h' : DigsAt W v' ds) : Calls Tryd.prog 19 #[v, v'] W fun e w' => e = .returned (.bool true) ∧ Below W.heap.size W w' := by
  obtain ⟨A, c, rfl, hlc, hcm⟩ := h.form
  obtain ⟨A', c', rfl, hlc', hcm'⟩ := h'.form
  have hm : ds.length ≤ maxLen := by omega
  unfold maxLen at hm
  have H := Lib.hid (And.intro h h')
  clear h h'
  go_enter Tryd.func19, Tryd.ntmps19
  go_wp2_with fail
  go_loopw [5] (fun vi wr => ∃ i : Nat, i ≤ ds.length ∧ vi = .int .i64 i ∧ Hid (Below W.heap.size W wr)) (fun vi _ => ds.length - (intOf vi).toNat)
  case atStart => exact ⟨0, Nat.zero_le _, rfl, Lib.hid (Below.refl _ _)⟩
  case round =>
    obtain ⟨i, hi, rfl, hI⟩ := hrel
    by_cases hlt : i < ds.length
    · obtain ⟨d, g, o, cap, hd, dd, hv, hcap, hr⟩ := (H.out.1.new hI.out).cell hlt
      obtain ⟨d2, g2, o2, cap2, hd2, dd2, hv2, hcap2, hr2⟩ := (H.out.2.new hI.out).cell hlt
      rw [hd] at hd2
      injection hd2 with hd2
      subst hd2
      injection hv with e1 _ e3
      injection hv2 with k1 _ k3
      subst e1 e3 k1 k3
      have q1 : ∀ w, (binOp .neq 24 (digV d) (digV d)).run Tryd.prog w = .ok (.bool false) w := fun w => by rw [run_neq_dig w d d dd dd, decide_eq_true rfl]; rfl
      have q4 : ∀ op x y w c d, (eqGuard op 24 x y (digV c) (digV d)).run Tryd.prog w = .ok () w := fun op x y w c d => run_guard_dig op x y w c d
      have HR := Lib.hid (And.intro hr (And.intro hr2 dd.1))
      clear hr hr2 hd dd dd2
      go_wp2_with fail
      refine wp_region_quiet_lit (by kernel_rfl) (by kernel_rfl) ?_
      repeat (first | (refine wpQuiet_load_dig rfl (.tmp 19) rfl g (o + i * 32) rfl d HR.out.2.2 (by rintro _ ⟨n, rfl⟩; exact HR.out.1) ?_; simp only [Act.put, List.setIfInBounds_toArray, List.set_cons_succ, List.set_cons_zero]) | (refine wpQuiet_load_dig rfl (.tmp 23) rfl g2 (o2 + i * 32) rfl d HR.out.2.2 (by rintro _ ⟨n, rfl⟩; exact HR.out.2.1) ?_; simp only [Act.put, List.setIfInBounds_toArray, List.set_cons_succ, List.set_cons_zero]) | go_big_quiet_step (fail))
      refine wpQuiet_nil ?_
      intro _ hw'
      obtain ⟨nr, hw''⟩ := hw'
      subst hw''
      go_wp2_with fail
      go_roundw
      case rel => exact ⟨i + 1, by omega, by go_num, Lib.hid ⟨hI.out.os, hI.out.tape, hI.out.output, hI.out.size, hI.out.block⟩⟩
      case measure => simp [intOf]; omega
    · have hge : ¬ (i : Int) < (ds.length : Int) := by omega
      go_wp2_with fail
      go_ret
      exact ⟨rfl, hI.out⟩
end Go.Proofs.YtplcjgpmainbnaaDoor.MkW
