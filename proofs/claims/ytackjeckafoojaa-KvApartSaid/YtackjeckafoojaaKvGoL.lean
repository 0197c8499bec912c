/- KvGoes at every input. -/
import Derived.Test.YtackjeckafoojaaKvGoW
import Derived.Test.YtackjeckafoojaaArr
import Derived.Test.YtackjeckafoojaaSlice
namespace Go.Proofs.Ytackjeckafoojaa.KvI
open Go.RowKit Kv Go.ChangeShapes Go.WideShapes
attribute [local go_sem ↓] Kit.execOp_call_slot
attribute [local go_sem] Kit.callSlot_func
theorem get_some_of {W : World} {ad : Addr} {len : Nat} : ∀ (n : Nat), n ≤ len → (∀ i, i < len → ∃ a b c : Int, W.cell? (ad.add (i * 3)) = some (.int .i64 a) ∧ W.cell? ⟨(ad.add (i * 3)).block, (ad.add (i * 3)).off + 1, none⟩ = some (.int .i64 b) ∧ W.cell? ⟨(ad.add (i * 3)).block, (ad.add (i * 3)).off + 2, none⟩ = some (.int .i64 c)) →
    ∃ l : List (Int × Int × Int), l.length = n ∧ ∀ j a b c, l[j]? = some (a, b, c) → W.cell? (ad.add (j * 3)) = some (.int .i64 a) ∧ W.cell? ⟨(ad.add (j * 3)).block, (ad.add (j * 3)).off + 1, none⟩ = some (.int .i64 b) ∧ W.cell? ⟨(ad.add (j * 3)).block, (ad.add (j * 3)).off + 2, none⟩ = some (.int .i64 c) := by
  intro n
  induction n with
  | zero => intro _ _; exact ⟨[], rfl, fun j a b c h => by simp at h⟩
  | succ n ih =>
    intro hn h
    obtain ⟨l, hl, hc⟩ := ih (by omega) h
    obtain ⟨a, b, c, h1⟩ := h n (by omega)
    refine ⟨l ++ [(a, b, c)], by simp [hl], fun j a' b' c' hj => ?_⟩
    rcases Nat.lt_or_ge j n with hlt | hge
    · rw [List.getElem?_append_left (by omega)] at hj
      exact hc j a' b' c' hj
    · have hj' := (List.getElem?_eq_some_iff.1 hj).1
      simp [hl] at hj'
      obtain rfl : j = n := by omega
      rw [List.getElem?_append_right (by omega), hl] at hj
      simp at hj
      obtain ⟨rfl, rfl, rfl⟩ := hj
      exact h1
theorem rdO_open {H : Type} {enc : TypeId × Value → H} {w : World} {base : Nat} {spare : Nat → Bool} {held : Bool} {fuel : Nat} {v : Value} {x : DataW H × List MemPlace} (h : DataW.trod enc Try.prog w base spare held fuel 23 [v] = some x) : ∃ l, RdO w v l := by
  rcases Sl.open_slice Try.underlying23 h with rfl | ⟨a, len, cap, n, rfl, -, -, h1⟩
  · exact ⟨[], ⟨⟨_, _, rfl⟩, fun j a b c hj => by simp at hj⟩⟩
  · have hC : Try.prog.cellsOf 36 = 3 := by kernel_rfl
    obtain ⟨l, hl, hc⟩ := get_some_of (W := w) (ad := a) len (Nat.le_refl _) (fun i hi => by
      obtain ⟨cs, y, h2, h3⟩ := h1 i hi
      rw [hC] at h2
      obtain ⟨p, q, r, rfl, -, -, -⟩ := Sl.three_ints Try.underlying36 (by kernel_rfl) hC Try.underlying3 Try.underlying3 Try.underlying3 h3
      obtain ⟨-, h4⟩ := Sl.cells_get h2
      exact ⟨p, q, r, h4 0 _ rfl, h4 1 _ rfl, h4 2 _ rfl⟩)
    exact ⟨l, ⟨⟨some a, cap, by rw [hl]⟩, fun j p q r hj => ⟨a, cap, by rw [hl], hc j p q r hj⟩⟩⟩
set_option maxRecDepth 100000 in
theorem goes_not (W : World) (a b : Int) (A0 : Option Addr) (n0 c0 : Nat) (h : okTwo a b = false) :
    Calls Try.prog 3 #[.agg #[.int .i64 a, .int .i64 b], .slice A0 n0 c0] W fun e w' => e = .returned (.bool true) ∧ Below W.heap.size W w' := by
  have HR := Lib.hid (fun w => right_run w a b)
  have HW := Lib.hid (((Below.refl W.heap.size W).alloc (Nat.le_refl _) (.cells #[.int .i64 a, .int .i64 b] 22)).alloc (by simp) (.cells #[.int .i64 a, .int .i64 b] 22))
  go_enter Try.func3, Try.ntmps3
  go_wp2_with fail
  with_reducible refine Calls.mono (HR.out _) ?_
  rintro e w1 ⟨rfl, rfl⟩
  rw [h]
  go_wp2_with fail
  all_goals (with_reducible refine Calls.mono (KvB.awake_run _) ?_; rintro e w2 ⟨rfl, hb⟩; have HB := Lib.hid hb; clear hb; go_wp2_with fail; go_ret; exact ⟨rfl, HW.out.trans (HB.out.mono (by simp; omega))⟩)
set_option maxRecDepth 100000 in
theorem goes_long (W : World) (a b : Int) (A0 : Option Addr) (n0 c0 : Nat) (hok : okTwo a b = true) (h : (50 : Int) < (n0 : Int)) :
    Calls Try.prog 3 #[.agg #[.int .i64 a, .int .i64 b], .slice A0 n0 c0] W fun e w' => e = .returned (.bool true) ∧ Below W.heap.size W w' := by
  have HR := Lib.hid (fun w => right_run w a b)
  have HW := Lib.hid (((Below.refl W.heap.size W).alloc (Nat.le_refl _) (.cells #[.int .i64 a, .int .i64 b] 22)).alloc (by simp) (.cells #[.int .i64 a, .int .i64 b] 22))
  go_enter Try.func3, Try.ntmps3
  go_wp2_with fail
  with_reducible refine Calls.mono (HR.out _) ?_
  rintro e w1 ⟨rfl, rfl⟩
  rw [hok]
  go_wp2_with fail
  all_goals (with_reducible refine Calls.mono (KvB.awake_run _) ?_; rintro e w2 ⟨rfl, hb⟩; have HB := Lib.hid hb; clear hb; go_wp2_with fail; go_ret; exact ⟨rfl, HW.out.trans (HB.out.mono (by simp; omega))⟩)
theorem goes_all (W : World) (a b : Int) (v : Value) (l : List (Int × Int × Int)) (h0 : RdO W v l) :
    Calls Try.prog 3 #[.agg #[.int .i64 a, .int .i64 b], v] W fun e w' => e = .returned (.bool true) ∧ Below W.heap.size W w' := by
  obtain ⟨A0, c0, e0⟩ := h0.form
  by_cases hok : okTwo a b = true
  · by_cases hl : 50 < l.length
    · rw [e0]; exact goes_long W a b _ _ _ hok (by omega)
    · obtain ⟨⟨o1, o2⟩, o3, o4⟩ := okTwo_true hok
      obtain ⟨p, rfl⟩ := Int.eq_ofNat_of_zero_le (show 0 ≤ a by omega)
      obtain ⟨z, rfl⟩ := Int.eq_ofNat_of_zero_le (show 0 ≤ b by omega)
      exact goes_good W p z (by omega) (by omega) v l h0 (by omega)
  · rw [e0]; exact goes_not W a b _ _ _ (by simpa using hok)
end Go.Proofs.Ytackjeckafoojaa.KvI
