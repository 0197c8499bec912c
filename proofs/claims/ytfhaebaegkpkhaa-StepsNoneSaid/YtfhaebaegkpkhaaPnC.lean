/- The law StepsNone. -/
import Derived.Test.YtfhaebaegkpkhaaPnB
import Derived.Test.YtfhaebaegkpkhaaMdA
set_option linter.unusedVariables false
set_option linter.unusedSimpArgs false
namespace Go.Proofs.Ytfhaebaegkpkhaa.Pln
open Go.RowKit OwnS Byt Cfg Stp Go.Shelf Fil
attribute [local go_sem ↓] Kit.execOp_call_slot
attribute [local go_sem] Kit.callSlot_func
theorem grown_of_below {W W' : World} (h : Below W.heap.size W W') : W.grownBy W' none := ⟨h.os, h.tape, h.output, h.size, fun k hk _ => h.block k hk⟩
/-- Steps of a plan that may not be: none. -/
theorem seq_no (n : Nat) (w : World) (q : Nat) (c : C6) (P limit K : Int) (h : NoPlan c P limit K) (hq : w.heap[q]? = some (.cells (planL c P limit K).toArray 62 (0, 0))) :
    SeqStopsK Fence.wide n Try.prog 77 #[.pointer (some ⟨q, 0, none⟩)] (fun x : Stp.Stp => #[x.val]) (fun _ _ => True) (fun ys => ys = []) (fun _ => False) 0 w := by
  intro l J Jx W hW hA _ hY hJ0
  have hlt : q < w.heap.size := (Array.getElem?_eq_some_iff.1 hq).1
  refine CallsIn.mono (callsIn_wide.2 (steps1_no W c P limit K h (.func (.yield l) #[] #[]) q ((hW.block q hlt).trans hq))) ?_
  rintro e W' ⟨he, hb⟩
  exact ⟨he, .inl ⟨[], rfl, hA [] W W' none hJ0 (grown_of_below hb) (by simp)⟩⟩
theorem size_pos (p : Pln) (ctx K : Int) (h : Okp p ctx K) : 0 < (stepsL p).length := by
  obtain ⟨-, f1, f2⟩ := h.facts
  obtain ⟨g1, g2⟩ := h.2.1
  unfold stepsL
  obtain ⟨n, hn⟩ : ∃ n, p.places = n + 1 := ⟨p.places - 1, by unfold Pln.places; omega⟩
  rw [hn, stepsTo_succ, List.length_append]
  have := placeL_pos p n
  omega
theorem run_equalIn_func_nil {P : Program} (w : World) (d : Nat) (t : TypeId) {p : Array TypeId} {r : Array TypeId} {v : Bool} (f : Fn) (a b : Array Value) (h : P.underlying t = some (.func p r v)) :
    (Op.equalIn (d + 1) t (.func f a b) .nilFunc).run P w = .ok false w := by
  simp [Op.equalIn, run_underlying h]
theorem seq_ne_nil (w : World) (f : Fn) (a b : Array Value) : (binOp .eql 66 (.func f a b) .nilFunc).run Try.prog w = .ok (.bool false) w := by
  simp only [binOp]
  simp [Op.equal, Op.maxDepth, run_equalIn_func_nil w 9999 _ f a b Try.underlying66]
theorem many_no (W : World) (c : C6) (P limit K : Int) (h : NoPlan c P limit K) : Calls Try.prog 25 #[.agg (planL c P limit K).toArray] W fun e w' => e = .returned (.int .i64 0) ∧ Below W.heap.size W w' := by
  have hr := fun w => places_no w c P limit K h
  obtain ⟨w2, hw2⟩ : ∃ w2, w2 = W.alloc (.cells (planL c P limit K).toArray 62) := ⟨_, rfl⟩
  have hb2 : Below W.heap.size W w2 := by rw [hw2]; exact (Below.refl _ _).alloc (Nat.le_refl _) _
  have hpl : w2.heap[W.heap.size]? = some (.cells (planL c P limit K).toArray 62 (0, 0)) := by rw [hw2]; exact heap_alloc_new W _
  have HW := Lib.hid hw2
  have HC := Lib.hid (And.intro hb2 (And.intro hr hpl))
  clear hw2 hb2 hr hpl h
  go_enter Try.func25, Try.ntmps25
  go_upto_region 1 with fail
  rw [← HW.out]
  go_wp2_with (first | (refine wpList_load_mid rfl 62 (.tmp 1) rfl W.heap.size 0 rfl (planL c P limit K) _ (rangeAt_whole HC.out.2.2) Try.underlying62 rfl plan_size ?_; simp only [Act.put, List.setIfInBounds_toArray, List.set_cons_succ, List.set_cons_zero]) | (go_at_call 30; (with_reducible refine Calls.mono (HC.out.2.1 w2) ?_); rintro e w3 ⟨rfl, hb3⟩; have HB := Lib.hid hb3; clear hb3))
  go_loopw [3, 7] (fun v3 v7 wr => v3 = .int .i64 0 ∧ v7 = .int .i64 0 ∧ Hid (wr = w3)) (fun _ _ _ => 0)
  case atStart => exact ⟨rfl, rfl, Lib.hid rfl⟩
  case round =>
    obtain ⟨rfl, rfl, hI⟩ := hrel
    obtain rfl := hI.out
    clear hI
    go_wp2_with fail
    go_ret
    exact ⟨rfl, below_chain HC.out.1 HB.out⟩
/-- A plan that may be, in numbers. -/
theorem plan_of {c : C6} {a b k : Int} (h0 : c.chk = 0) (h1 : planErr c a b k = 0) : ∃ p : Pln, planL c a b k = planC p c.c k ∧ Okp p c.c k := by
  obtain ⟨⟨g0, -⟩, ⟨g1, -⟩, ⟨g2, -⟩, ⟨g3, -⟩, ⟨g4, -⟩, ⟨g5, -⟩⟩ := bounds_of h0
  have hk : ¬ (a < 1 ∨ b < 1) ∧ ¬ (c.c < a ∨ c.c - a < b) := by
    unfold planErr at h1
    by_cases e1 : a < 1 ∨ b < 1
    · rw [if_pos e1] at h1; cases h1
    · rw [if_neg e1] at h1
      by_cases e2 : c.c < a ∨ c.c - a < b
      · rw [if_pos e2] at h1; cases h1
      · exact ⟨e1, e2⟩
  obtain ⟨v, hv⟩ := Int.eq_ofNat_of_zero_le (show 0 ≤ c.v by omega)
  obtain ⟨d, hd⟩ := Int.eq_ofNat_of_zero_le (show 0 ≤ c.d by omega)
  obtain ⟨hh, hhd⟩ := Int.eq_ofNat_of_zero_le (show 0 ≤ c.h by omega)
  obtain ⟨l, hl⟩ := Int.eq_ofNat_of_zero_le (show 0 ≤ c.l by omega)
  obtain ⟨x, hx⟩ := Int.eq_ofNat_of_zero_le (show 0 ≤ c.x by omega)
  obtain ⟨pa, ha⟩ := Int.eq_ofNat_of_zero_le (show 0 ≤ a by omega)
  obtain ⟨pb, hb⟩ := Int.eq_ofNat_of_zero_le (show 0 ≤ b by omega)
  have hc6 : c6P ⟨d, hh, l, x, v, pa, pb⟩ c.c = c := by
    unfold c6P
    cases c
    simp only at hv hd hhd hl hx ⊢
    simp only [hv, hd, hhd, hl, hx]
  refine ⟨⟨d, hh, l, x, v, pa, pb⟩, ?_, ?_⟩
  · unfold planL planC
    rw [hv, hd, hhd, hl, hx, ha, hb]
  · refine ⟨by rw [hc6]; exact h0, by simp only; omega, ?_⟩
    rw [hc6, modelErr_plan h0 pa a pb k (.inr (.inl ⟨by omega, by omega, ha.symm⟩)), ← hb]
    exact h1
end Go.Proofs.Ytfhaebaegkpkhaa.Pln
