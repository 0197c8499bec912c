/- KvApart at every input. -/
import Derived.Test.YtackjeckafoojaaKvApW
import Derived.Test.YtackjeckafoojaaKvGoL
namespace Go.Proofs.Ytackjeckafoojaa.KvI
open Go.RowKit Kv Go.ChangeShapes Go.WideShapes
attribute [local go_sem ↓] Kit.execOp_call_slot
attribute [local go_sem] Kit.callSlot_func
set_option maxRecDepth 10000 in
theorem op_open {H : Type} {enc : TypeId × Value → H} {w : World} {base : Nat} {spare : Nat → Bool} {held : Bool} {r : Reach} {b0 : Nat} {v : Value} {d : DataW H} {ps : List MemPlace} (hv : Value.okWide Try.prog w r b0 36 v) (h : DataW.Trod enc Try.prog w base spare held 36 v d ps) : ∃ a b c : Int, v = .agg #[.int .i64 a, .int .i64 b, .int .i64 c] := by
  obtain ⟨cs, rfl, hsz⟩ := okWide_struct Try.underlying36 hv
  obtain ⟨fuel, h⟩ := h
  obtain ⟨a, b, c, e, -, -, -⟩ := Sl.three_ints Try.underlying36 (by kernel_rfl) (by kernel_rfl) Try.underlying3 Try.underlying3 Try.underlying3 h
  refine ⟨a, b, c, ?_⟩
  obtain ⟨l⟩ := cs
  have e' : l = [.int .i64 a, .int .i64 b, .int .i64 c] := by simpa [Value.cells] using e
  rw [e']
set_option maxRecDepth 100000 in
theorem apart_not (W : World) (a b : Int) (A0 : Option Addr) (n0 c0 : Nat) (oa oi on : Int) (h : okTwo a b = false) :
    Calls Try.prog 5 #[.agg #[.int .i64 a, .int .i64 b], .slice A0 n0 c0, .agg #[.int .i64 oa, .int .i64 oi, .int .i64 on]] W fun e w' => e = .returned (.bool true) ∧ Below W.heap.size W w' := by
  have HR := Lib.hid (fun w => right_run w a b)
  have HW := Lib.hid ((((Below.refl W.heap.size W).alloc (Nat.le_refl _) (.cells #[.int .i64 a, .int .i64 b] 22)).alloc (by simp) (.cells #[.int .i64 oa, .int .i64 oi, .int .i64 on] 36)).alloc (by simp; omega) (.cells #[.int .i64 a, .int .i64 b] 22))
  go_enter Try.func5, Try.ntmps5
  go_wp2_with fail
  with_reducible refine Calls.mono (HR.out _) ?_
  rintro e w1 ⟨rfl, rfl⟩
  rw [h]
  go_wp2_with fail
  all_goals (with_reducible refine Calls.mono (KvB.awake_run _) ?_; rintro e w2 ⟨rfl, hb⟩; have HB := Lib.hid hb; clear hb; go_wp2_with fail; go_ret; exact ⟨rfl, HW.out.trans (HB.out.mono (by simp; omega))⟩)
set_option maxRecDepth 100000 in
theorem apart_long (W : World) (a b : Int) (A0 : Option Addr) (n0 c0 : Nat) (oa oi on : Int) (hok : okTwo a b = true) (h : (50 : Int) < (n0 : Int)) :
    Calls Try.prog 5 #[.agg #[.int .i64 a, .int .i64 b], .slice A0 n0 c0, .agg #[.int .i64 oa, .int .i64 oi, .int .i64 on]] W fun e w' => e = .returned (.bool true) ∧ Below W.heap.size W w' := by
  have HR := Lib.hid (fun w => right_run w a b)
  have HW := Lib.hid ((((Below.refl W.heap.size W).alloc (Nat.le_refl _) (.cells #[.int .i64 a, .int .i64 b] 22)).alloc (by simp) (.cells #[.int .i64 oa, .int .i64 oi, .int .i64 on] 36)).alloc (by simp; omega) (.cells #[.int .i64 a, .int .i64 b] 22))
  go_enter Try.func5, Try.ntmps5
  go_wp2_with fail
  with_reducible refine Calls.mono (HR.out _) ?_
  rintro e w1 ⟨rfl, rfl⟩
  rw [hok]
  go_wp2_with fail
  all_goals (with_reducible refine Calls.mono (KvB.awake_run _) ?_; rintro e w2 ⟨rfl, hb⟩; have HB := Lib.hid hb; clear hb; go_wp2_with fail; go_ret; exact ⟨rfl, HW.out.trans (HB.out.mono (by simp; omega))⟩)
theorem apart_all (W : World) (a b : Int) (v : Value) (l : List (Int × Int × Int)) (oa oi on : Int) (h0 : RdO W v l) :
    Calls Try.prog 5 #[.agg #[.int .i64 a, .int .i64 b], v, .agg #[.int .i64 oa, .int .i64 oi, .int .i64 on]] W fun e w' => e = .returned (.bool true) ∧ Below W.heap.size W w' := by
  obtain ⟨A0, c0, e0⟩ := h0.form
  by_cases hok : okTwo a b = true
  · by_cases hl : 50 < l.length
    · rw [e0]; exact apart_long W a b _ _ _ oa oi on hok (by omega)
    · obtain ⟨⟨o1, o2⟩, o3, o4⟩ := okTwo_true hok
      obtain ⟨p, rfl⟩ := Int.eq_ofNat_of_zero_le (show 0 ≤ a by omega)
      obtain ⟨z, rfl⟩ := Int.eq_ofNat_of_zero_le (show 0 ≤ b by omega)
      exact apart_good W p z (by omega) (by omega) v l oa oi on h0 (by omega)
  · rw [e0]; exact apart_not W a b _ _ _ oa oi on (by simpa using hok)
end Go.Proofs.Ytackjeckafoojaa.KvI
