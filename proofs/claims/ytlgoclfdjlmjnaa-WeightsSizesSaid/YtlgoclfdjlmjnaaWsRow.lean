/- The law WeightsSizes returns true for every input that the statement lets in, and each argument reads afterwards as it did. No condition. -/
import Derived.Test.YtlgoclfdjlmjnaaRows
import Derived.Test.YtlgoclfdjlmjnaaWsLaw
import Derived.Test.YtlgoclfdjlmjnaaAgg
import Derived.Lib.SmallJoins
import Derived.WalkKit
import Derived.ProofKit
import Derived.OpenShut
import Derived.ShutString
import Derived.ChangeOld
import Derived.Below
import Derived.SizedLaws
namespace Go.Proofs.Ytlgoclfdjlmjnaa.weightsSizesRow
open Go.ChangeShapes Go.WideShapes Go.ChangeAt Go.RowKit
set_option linter.unusedVariables false
theorem own : ownKnob Try.prog.godebug = none := by kernel_rfl
theorem laidOut : laidOutB Try.prog = true := by kernel_rfl
set_option maxRecDepth 100000 in
theorem lifted (os : Os) (started : os.Started) (H : Type) (enc : TypeId × Value → H) :
    ReturnsInHanded {} Try.checked os 3 .any (Rows.weightsSizesSpec.pre6 enc Try.prog Try.f3 Rows.weightsSizesRow.domain false) (Rows.weightsSizesSpec.post enc Try.prog Try.f3 false true false false) := by
  refine returnsInHanded_of_change (C := Try.checked) own started (by kernel_rfl) Try.func3
    (ChangeSpec.witness6 (enc := enc) (C := Try.checked) false ⟨#[], #[.agg #[.int .i64 0, .int .i64 0, .int .i64 0, .int .i64 0, .int .i64 0, .int .i64 0], .agg #[.int .i64 0, .int .i64 0, .int .i64 0]], []⟩ 8 (by kernel_rfl) (by kernel_rfl) (by kernel_rfl) (by kernel_rfl)) ?_
  intro W base args ds gs before hval0 hW hcnd _
  have hval : ∀ (j : Nat) t v, Try.f3.params[j]? = some t → args[j]? = some v → Value.okWide Try.prog W .any base t v := hval0
  have hW' := hW
  obtain ⟨p, q, hA0, hV, rfl, hfz, hnd⟩ := hW
  have hA : DataW.TrodAll enc Try.prog W 0 (fun _ => true) true Try.f3.params.toList args.toList ds p := hA0
  rw [Try.params3] at hA hval
  obtain ⟨v0, vs0, d0, ds0, p0, q0, hargs, rfl, rfl, h0, r0⟩ := trodAll_cons hA
  obtain ⟨v1, vs1, d1, ds1, p1, q1, rfl, rfl, rfl, h1, r1⟩ := trodAll_cons r0
  obtain ⟨rfl, rfl, rfl⟩ := trodAll_nil r1
  obtain rfl : args = #[v0, v1] := by cases args; simp_all
  obtain ⟨rfl, rfl⟩ := trodVars_none hV
  have k0 := h0
  have lt0 : ∀ x ∈ p0, x.block < W.heap.size := by obtain ⟨m, hm⟩ := k0; exact DataW.trod_lt m _ _ _ hm
  have k1 := h1
  have lt1 : ∀ x ∈ p1, x.block < W.heap.size := by obtain ⟨m, hm⟩ := k1; exact DataW.trod_lt m _ _ _ hm
  clear hA0 hval0
  obtain ⟨c0, c1, c2, c3, c4, c5, y0, y1, y2, y3, y4, y5, n, rfl, e0, e1, z0, z1, z2, z3, z4, z5⟩ := Agg.open_agg6 Try.underlying23 (by kernel_rfl) (by kernel_rfl) (hval 0 23 v0 rfl rfl) h0
  obtain ⟨a0, g0, _, wa0⟩ := DataW.trod_int Try.underlying3 z0
  obtain rfl : c0 = .int .i64 a0 := by simpa using g0
  obtain ⟨a1, g1, _, wa1⟩ := DataW.trod_int Try.underlying3 z1
  obtain rfl : c1 = .int .i64 a1 := by simpa using g1
  obtain ⟨a2, g2, _, wa2⟩ := DataW.trod_int Try.underlying3 z2
  obtain rfl : c2 = .int .i64 a2 := by simpa using g2
  obtain ⟨a3, g3, _, wa3⟩ := DataW.trod_int Try.underlying3 z3
  obtain rfl : c3 = .int .i64 a3 := by simpa using g3
  obtain ⟨a4, g4, _, wa4⟩ := DataW.trod_int Try.underlying3 z4
  obtain rfl : c4 = .int .i64 a4 := by simpa using g4
  obtain ⟨a5, g5, _, wa5⟩ := DataW.trod_int Try.underlying3 z5
  obtain rfl : c5 = .int .i64 a5 := by simpa using g5
  obtain ⟨c6, c7, c8, x0, x1, x2, n', rfl, e2, e3, t0, t1, t2⟩ := Joins.open_agg3 Try.underlying25 (by kernel_rfl) (by kernel_rfl) (hval 1 25 v1 rfl rfl) h1
  obtain ⟨b0, m0, _, wb0⟩ := DataW.trod_int Try.underlying3 t0
  obtain rfl : c6 = .int .i64 b0 := by simpa using m0
  obtain ⟨b1, m1, _, wb1⟩ := DataW.trod_int Try.underlying3 t1
  obtain rfl : c7 = .int .i64 b1 := by simpa using m1
  obtain ⟨b2, m2, _, wb2⟩ := DataW.trod_int Try.underlying3 t2
  obtain rfl : c8 = .int .i64 b2 := by simpa using m2
  have hr : -9223372036854775808 ≤ b2 ∧ b2 ≤ 9223372036854775807 := by
    have := wb2
    simp only [Lit.wf, Bool.and_eq_true, decide_eq_true_eq] at this
    exact this
  refine (Cfg.law ⟨a0, a1, a2, a3, a4, a5⟩ ⟨b0, b1, b2⟩ W hr).mono fun e W' ⟨he, bel⟩ => ?_
  subst he
  exact ⟨_, rfl, _, _, _, [], _, [], hW', trodAll_mk1 (shut_bool Try.underlying4 _), (trodAll_cons_mk (Below.trod laidOut (by kernel_rfl) (of_decide_eq_true (by kernel_rfl)) k0 bel lt0) (trodAll_cons_mk (Below.trod laidOut (by kernel_rfl) (of_decide_eq_true (by kernel_rfl)) k1 bel lt1) trodAll_mk0)), rfl, bel.frame _, fun h => by cases h⟩
theorem over : Rows.weightsSizesRow.holds Try.pinned (OpenSpec.ofChange Rows.weightsSizesSpec) :=
  OpenClaim.holds_of_wide 3 Try.f3 rfl rfl rfl rfl rfl rfl rfl ⟨rfl, rfl, rfl, rfl, rfl⟩ rfl rfl rfl rfl rfl (by kernel_rfl) Try.func3 (by kernel_rfl)
    (of_decide_eq_true (by kernel_rfl)) (by unfold Func.isWrapper; first | (rw [if_pos (by decide +kernel)]; kernel_rfl) | (rw [if_neg (by decide +kernel)]; exact ⟨rfl, rfl⟩))
    (fun os started H enc _ => lifted os started H enc)
theorem weightsSizes_holds : Rows.WeightsSizesSaid := over
#print axioms weightsSizes_holds
end Go.Proofs.Ytlgoclfdjlmjnaa.weightsSizesRow
