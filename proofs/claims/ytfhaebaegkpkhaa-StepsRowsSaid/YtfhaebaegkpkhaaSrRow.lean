/- The law StepsRows returns true for every input that the statement lets in, and each argument reads afterwards as it did. No condition. -/
import Derived.Test.YtfhaebaegkpkhaaRows
import Derived.Test.YtfhaebaegkpkhaaSrL
import Derived.Lib.SmallJoins
import Derived.WalkKit
import Derived.ProofKit
import Derived.OpenShut
import Derived.ShutString
import Derived.ChangeOld
import Derived.Below
import Derived.SizedLaws
namespace Go.Proofs.Ytfhaebaegkpkhaa.stepsRowsRow
open Go.ChangeShapes Go.WideShapes Go.ChangeAt Go.RowKit
set_option linter.unusedVariables false
theorem own : ownKnob Try.prog.godebug = none := by kernel_rfl
theorem laidOut : laidOutB Try.prog = true := by kernel_rfl
set_option maxRecDepth 100000 in
theorem lifted (os : Os) (started : os.Started) (H : Type) (enc : TypeId × Value → H) :
    ReturnsInHanded {} Try.checked os 4 .any (Rows.stepsRowsSpec.pre6 enc Try.prog Try.f4 Rows.stepsRowsRow.domain false) (Rows.stepsRowsSpec.post enc Try.prog Try.f4 false true false false) := by
  refine returnsInHanded_of_change (C := Try.checked) own started (by kernel_rfl) Try.func4
    (ChangeSpec.witness6 (enc := enc) (C := Try.checked) false ⟨#[], #[.agg #[.int .i64 0, .int .i64 0, .int .i64 0, .int .i64 0, .int .i64 0, .int .i64 0, .slice none 0 0], .agg #[.int .i64 0, .int .i64 0, .int .i64 0]], []⟩ 8 (by kernel_rfl) (by kernel_rfl) (by kernel_rfl) (by kernel_rfl)) ?_
  intro W base args ds gs before hval0 hW hcnd _
  have hval : ∀ (j : Nat) t v, Try.f4.params[j]? = some t → args[j]? = some v → Value.okWide Try.prog W .any base t v := hval0
  have hW' := hW
  obtain ⟨p, q, hA0, hV, rfl, hfz, hnd⟩ := hW
  have hA : DataW.TrodAll enc Try.prog W 0 (fun _ => true) true Try.f4.params.toList args.toList ds p := hA0
  rw [Try.params4] at hA hval
  obtain ⟨v0, vs0, d0, ds0, p0, q0, hargs, rfl, rfl, h0, r0⟩ := trodAll_cons hA
  obtain ⟨v1, vs1, d1, ds1, p1, q1, rfl, rfl, rfl, h1, r1⟩ := trodAll_cons r0
  obtain ⟨rfl, rfl, rfl⟩ := trodAll_nil r1
  obtain rfl : args = #[v0, v1] := by cases args; simp_all
  obtain ⟨rfl, rfl⟩ := trodVars_none hV
  have k0 := h0
  have lt0 : ∀ x ∈ p0, x.block < W.heap.size := by obtain ⟨m, hm⟩ := k0; exact DataW.trod_lt m _ _ _ hm
  have k1 := h1
  have lt1 : ∀ x ∈ p1, x.block < W.heap.size := by obtain ⟨m, hm⟩ := k1; exact DataW.trod_lt m _ _ _ hm
  clear hA0 hval0
  obtain ⟨s0, s1, s2, s3, s4, s5, fA, fc, fill, rfl, hfill⟩ := Spc.open_spec (hval 0 49 v0 rfl rfl) h0
  obtain ⟨c6, c7, c8, x0, x1, x2, n', rfl, e2, e3, t0, t1, t2⟩ := Joins.open_agg3 Try.underlying33 (by kernel_rfl) (by kernel_rfl) (hval 1 33 v1 rfl rfl) h1
  obtain ⟨b0, m0, _, wb0⟩ := DataW.trod_int Try.underlying3 t0
  obtain rfl : c6 = .int .i64 b0 := by simpa using m0
  obtain ⟨b1, m1, _, wb1⟩ := DataW.trod_int Try.underlying3 t1
  obtain rfl : c7 = .int .i64 b1 := by simpa using m1
  obtain ⟨b2, m2, _, wb2⟩ := DataW.trod_int Try.underlying3 t2
  obtain rfl : c8 = .int .i64 b2 := by simpa using m2
  have hr : -9223372036854775808 ≤ b2 ∧ b2 ≤ 9223372036854775807 := by
    have := wb2
    simp only [Lit.wf, Bool.and_eq_true, decide_eq_true_eq] at this
    exact this
  refine (Fil.srl W s0 s1 s2 s3 s4 s5 fA fc fill hfill b0 b1 b2 hr).mono fun e W' ⟨he, bel⟩ => ?_
  subst he
  exact ⟨_, rfl, _, _, _, [], _, [], hW', trodAll_mk1 (shut_bool Try.underlying4 _), (trodAll_cons_mk (Below.trod laidOut (by kernel_rfl) (of_decide_eq_true (by kernel_rfl)) k0 bel lt0) (trodAll_cons_mk (Below.trod laidOut (by kernel_rfl) (of_decide_eq_true (by kernel_rfl)) k1 bel lt1) trodAll_mk0)), rfl, bel.frame _, fun h => by cases h⟩
theorem over : Rows.stepsRowsRow.holds Try.pinned (OpenSpec.ofChange Rows.stepsRowsSpec) :=
  OpenClaim.holds_of_wide 4 Try.f4 rfl rfl rfl rfl rfl rfl rfl ⟨rfl, rfl, rfl, rfl, rfl⟩ rfl rfl rfl rfl rfl (by kernel_rfl) Try.func4 (by kernel_rfl)
    (of_decide_eq_true (by kernel_rfl)) (by unfold Func.isWrapper; first | (rw [if_pos (by decide +kernel)]; kernel_rfl) | (rw [if_neg (by decide +kernel)]; exact ⟨rfl, rfl⟩))
    (fun os started H enc _ => lifted os started H enc)
theorem stepsRows_holds : Rows.StepsRowsSaid := over
#print axioms stepsRows_holds
end Go.Proofs.Ytfhaebaegkpkhaa.stepsRowsRow
