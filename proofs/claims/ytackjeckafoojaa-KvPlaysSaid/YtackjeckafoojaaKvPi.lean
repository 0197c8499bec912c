/- KvPlays, walked. -/
import Derived.Test.YtackjeckafoojaaKvPh
import Derived.Test.YtackjeckafoojaaArr
import Derived.Test.YtackjeckafoojaaSlice
set_option linter.unusedVariables false
set_option linter.unusedSimpArgs false
namespace Go.Proofs.Ytackjeckafoojaa.KvI
open Go.RowKit Kv Go.ChangeShapes Go.WideShapes
attribute [local go_sem ↓] Kit.execOp_call_slot
attribute [local go_sem] Kit.callSlot_func
theorem get_some_of {W : World} {ad : Addr} {len : Nat} : ∀ (n : Nat), n ≤ len → (∀ i, i < len → ∃ a b c : Int, W.cell? (ad.add (i * 3)) = some (.int .i64 a) ∧ W.cell? ⟨(ad.add (i * 3)).block, (ad.add (i * 3)).off + 1, none⟩ = some (.int .i64 b) ∧ W.cell? ⟨(ad.add (i * 3)).block, (ad.add (i * 3)).off + 2, none⟩ = some (.int .i64 c)) →
    ∃ l : List (Int × Int × Int), l.length = n ∧ ∀ j a b c, l[j]? = some (a, b, c) → W.cell? (ad.add (j * 3)) = some (.int .i64 a) ∧ W.cell? ⟨(ad.add (j * 3)).block, (ad.add (j * 3)).off + 1, none⟩ = some (.int .i64 b) ∧ W.cell? ⟨(ad.add (j * 3)).block, (ad.add (j * 3)).off + 2, none⟩ = some (.int .i64 c) := by
  intro n
  induction n with
  | zero => intro _ _; exact ⟨[], rfl, fun j a b c h => by simp at h⟩
  | succ n ih =>
    intro hn h
    obtain ⟨l, hl, hc⟩ := ih (by omega) h
    obtain ⟨a, b, c, h1⟩ := h n (by omega)
    refine ⟨l ++ [(a, b, c)], by simp [hl], fun j a' b' c' hj => ?_⟩
    rcases Nat.lt_or_ge j n with hlt | hge
    · rw [List.getElem?_append_left (by omega)] at hj
      exact hc j a' b' c' hj
    · have hj' := (List.getElem?_eq_some_iff.1 hj).1
      simp [hl] at hj'
      obtain rfl : j = n := by omega
      rw [List.getElem?_append_right (by omega), hl] at hj
      simp at hj
      obtain ⟨rfl, rfl, rfl⟩ := hj
      exact h1
theorem rdO_open {H : Type} {enc : TypeId × Value → H} {w : World} {base : Nat} {spare : Nat → Bool} {held : Bool} {fuel : Nat} {v : Value} {x : DataW H × List MemPlace} (h : DataW.trod enc Try.prog w base spare held fuel 23 [v] = some x) : ∃ l, RdO w v l := by
  rcases Sl.open_slice Try.underlying23 h with rfl | ⟨a, len, cap, n, rfl, -, -, h1⟩
  · exact ⟨[], ⟨⟨_, _, rfl⟩, fun j a b c hj => by simp at hj⟩⟩
  · have hC : Try.prog.cellsOf 36 = 3 := by kernel_rfl
    obtain ⟨l, hl, hc⟩ := get_some_of (W := w) (ad := a) len (Nat.le_refl _) (fun i hi => by
      obtain ⟨cs, y, h2, h3⟩ := h1 i hi
      rw [hC] at h2
      obtain ⟨p, q, r, rfl, -, -, -⟩ := Sl.three_ints Try.underlying36 (by kernel_rfl) hC Try.underlying3 Try.underlying3 Try.underlying3 h3
      obtain ⟨-, h4⟩ := Sl.cells_get h2
      exact ⟨p, q, r, h4 0 _ rfl, h4 1 _ rfl, h4 2 _ rfl⟩)
    exact ⟨l, ⟨⟨some a, cap, by rw [hl]⟩, fun j p q r hj => ⟨a, cap, by rw [hl], hc j p q r hj⟩⟩⟩
theorem both_new {w1 w2 : World} {p z : Nat} (h : At w1.heap.size (w1.heap.size + 2) w1 (fun _ => False) w2 (emptyP Int p z)) :
    Both w1.heap.size (w1.heap.size + 2) w2.heap.size p z w1 (w2.alloc (.cells #[.slice none 0 0, .int .i64 (p : Int), .int .i64 (z : Int)] 34)) (emptyP Int p z) (emptyP Int p z).rowsOf (fun _ => False) := by
  have hb : Below w2.heap.size w2 (w2.alloc (.cells #[.slice none 0 0, .int .i64 (p : Int), .int .i64 (z : Int)] 34)) := (Below.refl _ _).alloc (Nat.le_refl _) _
  have hs : (w2.alloc (.cells #[.slice none 0 0, .int .i64 (p : Int), .int .i64 (z : Int)] 34)).heap.size = w2.heap.size + 1 := by simp
  have hρ : ∀ k, (fun b => if b = w2.heap.size then some RRole.box else none) k ≠ none → k = w2.heap.size := fun k hk => by
    by_cases e : k = w2.heap.size
    · exact e
    · exact absurd (if_neg e) hk
  have e0 : (emptyP Int p z).rowsOf = [] := by simp [PSt.rowsOf, emptyP]
  rw [e0]
  refine ⟨fun b => if b = w2.heap.size then some .box else none, ⟨w2.heap.size, .slice none 0 0, fun _ => .slice none 0 0, fun _ => .slice none 0 0⟩, ⟨fun b hb' => by rw [hρ b hb', hs]; omega, heap_alloc_new _ _, if_pos rfl, ⟨[], World.ownsRow_nil _ _ _ _, fun i r hr => by simp at hr⟩, fun b hb' => by simp [Value.ownBlock] at hb', fun i r hr => by simp at hr, fun i r b hr => by simp at hr, fun i r hr => by simp at hr, fun i r b hr => by simp at hr⟩, rfl, ?_, fun k hk => if_neg (by have := h.size; omega), fun k hk => hk.elim⟩
  refine ⟨((h.ap.none_ge h.size h.lt).weaken fun k hk => ?_).below hb, fun k hk => ?_, Nat.le_trans h.size hb.size, h.below.trans (hb.mono h.size)⟩
  · rcases hk with hk | hk
    · exact .inr (by rw [hρ k hk]; exact Nat.le_refl _)
    · exact hk.elim
  · rcases hk with hk | hk
    · rw [hρ k hk, hs]; omega
    · exact hk.elim
set_option maxRecDepth 100000 in
theorem plays_p (W : World) (a b : Int) (A0 : Option Addr) (n0 c0 : Nat) (h1 : 12 < a) (h2 : a ≤ 256) :
    Calls Try.prog 6 #[.agg #[.int .i64 a, .int .i64 b], .slice A0 n0 c0] W fun e w' => e = .returned (.bool true) ∧ Below W.heap.size W w' := by
  have HW := Lib.hid ((Below.refl W.heap.size W).alloc (Nat.le_refl _) (.cells #[.int .i64 a, .int .i64 b] 22))
  have g0 : ¬ a ≤ 12 := by omega
  have g1 : ¬ 256 < a := by omega
  go_enter Try.func6, Try.ntmps6
  go_wp2_with fail
  all_goals (with_reducible refine Calls.mono (KvB.awake_run _) ?_
             rintro e w2 ⟨rfl, hb⟩
             have HB := Lib.hid hb
             clear hb
             go_wp2_with fail
             go_ret
             exact ⟨rfl, HW.out.trans (HB.out.mono (by simp))⟩)
set_option maxRecDepth 100000 in
theorem plays_z0 (W : World) (a b : Int) (A0 : Option Addr) (n0 c0 : Nat) (h1 : a ≤ 12) (h3 : 8 < b) (h4 : b ≤ 64) :
    Calls Try.prog 6 #[.agg #[.int .i64 a, .int .i64 b], .slice A0 n0 c0] W fun e w' => e = .returned (.bool true) ∧ Below W.heap.size W w' := by
  have HW := Lib.hid ((Below.refl W.heap.size W).alloc (Nat.le_refl _) (.cells #[.int .i64 a, .int .i64 b] 22))
  have g0 : ¬ 12 < a := by omega
  have g1 : ¬ b ≤ 8 := by omega
  have g2 : ¬ 64 < b := by omega
  go_enter Try.func6, Try.ntmps6
  go_wp2_with fail
  all_goals (with_reducible refine Calls.mono (KvB.awake_run _) ?_
             rintro e w2 ⟨rfl, hb⟩
             have HB := Lib.hid hb
             clear hb
             go_wp2_with fail
             go_ret
             exact ⟨rfl, HW.out.trans (HB.out.mono (by simp))⟩)
set_option maxRecDepth 100000 in
theorem plays_z1 (W : World) (a b : Int) (A0 : Option Addr) (n0 c0 : Nat) (h1 : 12 < a) (h2 : 256 < a) (h3 : 8 < b) (h4 : b ≤ 64) :
    Calls Try.prog 6 #[.agg #[.int .i64 a, .int .i64 b], .slice A0 n0 c0] W fun e w' => e = .returned (.bool true) ∧ Below W.heap.size W w' := by
  have HW := Lib.hid ((Below.refl W.heap.size W).alloc (Nat.le_refl _) (.cells #[.int .i64 a, .int .i64 b] 22))
  have g0 : ¬ a ≤ 12 := by omega
  have g1 : ¬ a ≤ 256 := by omega
  have g2 : ¬ b ≤ 8 := by omega
  have g3 : ¬ 64 < b := by omega
  go_enter Try.func6, Try.ntmps6
  go_wp2_with fail
  all_goals (with_reducible refine Calls.mono (KvB.awake_run _) ?_
             rintro e w2 ⟨rfl, hb⟩
             have HB := Lib.hid hb
             clear hb
             go_wp2_with fail
             go_ret
             exact ⟨rfl, HW.out.trans (HB.out.mono (by simp))⟩)
set_option maxRecDepth 100000 in
theorem plays_b00 (W : World) (a b : Int) (A0 : Option Addr) (n0 c0 : Nat) (h1 : a ≤ 12) (h5 : a < 1) (h3 : b ≤ 8) (h6 : b < 1) :
    Calls Try.prog 6 #[.agg #[.int .i64 a, .int .i64 b], .slice A0 n0 c0] W fun e w' => e = .returned (.bool true) ∧ Below W.heap.size W w' := by
  have HW := Lib.hid ((Below.refl W.heap.size W).alloc (Nat.le_refl _) (.cells #[.int .i64 a, .int .i64 b] 22))
  have g0 : ¬ 12 < a := by omega
  have g1 : ¬ 1 ≤ a := by omega
  have g2 : ¬ 8 < b := by omega
  have g3 : ¬ 1 ≤ b := by omega
  have HN := Lib.hid (fun w => new_bad w a b (by omega))
  go_enter Try.func6, Try.ntmps6
  go_wp2_with fail
  with_reducible refine Calls.mono (HN.out _) ?_
  rintro e w1 ⟨rfl, rfl⟩
  go_wp2_with fail
  all_goals (with_reducible refine Calls.mono (KvB.awake_run _) ?_
             rintro e w2 ⟨rfl, hb⟩
             have HB := Lib.hid hb
             clear hb
             go_wp2_with fail
             go_ret
             exact ⟨rfl, HW.out.trans (HB.out.mono (by simp))⟩)
set_option maxRecDepth 100000 in
theorem plays_b01 (W : World) (a b : Int) (A0 : Option Addr) (n0 c0 : Nat) (h1 : a ≤ 12) (h5 : a < 1) (h3 : 8 < b) (h6 : 64 < b) :
    Calls Try.prog 6 #[.agg #[.int .i64 a, .int .i64 b], .slice A0 n0 c0] W fun e w' => e = .returned (.bool true) ∧ Below W.heap.size W w' := by
  have HW := Lib.hid ((Below.refl W.heap.size W).alloc (Nat.le_refl _) (.cells #[.int .i64 a, .int .i64 b] 22))
  have g0 : ¬ 12 < a := by omega
  have g1 : ¬ 1 ≤ a := by omega
  have g2 : ¬ b ≤ 8 := by omega
  have g3 : ¬ b ≤ 64 := by omega
  have HN := Lib.hid (fun w => new_bad w a b (by omega))
  go_enter Try.func6, Try.ntmps6
  go_wp2_with fail
  with_reducible refine Calls.mono (HN.out _) ?_
  rintro e w1 ⟨rfl, rfl⟩
  go_wp2_with fail
  all_goals (with_reducible refine Calls.mono (KvB.awake_run _) ?_
             rintro e w2 ⟨rfl, hb⟩
             have HB := Lib.hid hb
             clear hb
             go_wp2_with fail
             go_ret
             exact ⟨rfl, HW.out.trans (HB.out.mono (by simp))⟩)
set_option maxRecDepth 100000 in
theorem plays_b02 (W : World) (a b : Int) (A0 : Option Addr) (n0 c0 : Nat) (h1 : a ≤ 12) (h5 : a < 1) (h3 : b ≤ 8) (h6 : 1 ≤ b) :
    Calls Try.prog 6 #[.agg #[.int .i64 a, .int .i64 b], .slice A0 n0 c0] W fun e w' => e = .returned (.bool true) ∧ Below W.heap.size W w' := by
  have HW := Lib.hid ((Below.refl W.heap.size W).alloc (Nat.le_refl _) (.cells #[.int .i64 a, .int .i64 b] 22))
  have g0 : ¬ 12 < a := by omega
  have g1 : ¬ 1 ≤ a := by omega
  have g2 : ¬ 8 < b := by omega
  have g3 : ¬ b < 1 := by omega
  have HN := Lib.hid (fun w => new_bad w a b (by omega))
  go_enter Try.func6, Try.ntmps6
  go_wp2_with fail
  with_reducible refine Calls.mono (HN.out _) ?_
  rintro e w1 ⟨rfl, rfl⟩
  go_wp2_with fail
  all_goals (with_reducible refine Calls.mono (KvB.awake_run _) ?_
             rintro e w2 ⟨rfl, hb⟩
             have HB := Lib.hid hb
             clear hb
             go_wp2_with fail
             go_ret
             exact ⟨rfl, HW.out.trans (HB.out.mono (by simp))⟩)
set_option maxRecDepth 100000 in
theorem plays_b10 (W : World) (a b : Int) (A0 : Option Addr) (n0 c0 : Nat) (h1 : 12 < a) (h5 : 256 < a) (h3 : b ≤ 8) (h6 : b < 1) :
    Calls Try.prog 6 #[.agg #[.int .i64 a, .int .i64 b], .slice A0 n0 c0] W fun e w' => e = .returned (.bool true) ∧ Below W.heap.size W w' := by
  have HW := Lib.hid ((Below.refl W.heap.size W).alloc (Nat.le_refl _) (.cells #[.int .i64 a, .int .i64 b] 22))
  have g0 : ¬ a ≤ 12 := by omega
  have g1 : ¬ a ≤ 256 := by omega
  have g2 : ¬ 8 < b := by omega
  have g3 : ¬ 1 ≤ b := by omega
  have HN := Lib.hid (fun w => new_bad w a b (by omega))
  go_enter Try.func6, Try.ntmps6
  go_wp2_with fail
  with_reducible refine Calls.mono (HN.out _) ?_
  rintro e w1 ⟨rfl, rfl⟩
  go_wp2_with fail
  all_goals (with_reducible refine Calls.mono (KvB.awake_run _) ?_
             rintro e w2 ⟨rfl, hb⟩
             have HB := Lib.hid hb
             clear hb
             go_wp2_with fail
             go_ret
             exact ⟨rfl, HW.out.trans (HB.out.mono (by simp))⟩)
set_option maxRecDepth 100000 in
theorem plays_b11 (W : World) (a b : Int) (A0 : Option Addr) (n0 c0 : Nat) (h1 : 12 < a) (h5 : 256 < a) (h3 : 8 < b) (h6 : 64 < b) :
    Calls Try.prog 6 #[.agg #[.int .i64 a, .int .i64 b], .slice A0 n0 c0] W fun e w' => e = .returned (.bool true) ∧ Below W.heap.size W w' := by
  have HW := Lib.hid ((Below.refl W.heap.size W).alloc (Nat.le_refl _) (.cells #[.int .i64 a, .int .i64 b] 22))
  have g0 : ¬ a ≤ 12 := by omega
  have g1 : ¬ a ≤ 256 := by omega
  have g2 : ¬ b ≤ 8 := by omega
  have g3 : ¬ b ≤ 64 := by omega
  have HN := Lib.hid (fun w => new_bad w a b (by omega))
  go_enter Try.func6, Try.ntmps6
  go_wp2_with fail
  with_reducible refine Calls.mono (HN.out _) ?_
  rintro e w1 ⟨rfl, rfl⟩
  go_wp2_with fail
  all_goals (with_reducible refine Calls.mono (KvB.awake_run _) ?_
             rintro e w2 ⟨rfl, hb⟩
             have HB := Lib.hid hb
             clear hb
             go_wp2_with fail
             go_ret
             exact ⟨rfl, HW.out.trans (HB.out.mono (by simp))⟩)
set_option maxRecDepth 100000 in
theorem plays_b12 (W : World) (a b : Int) (A0 : Option Addr) (n0 c0 : Nat) (h1 : 12 < a) (h5 : 256 < a) (h3 : b ≤ 8) (h6 : 1 ≤ b) :
    Calls Try.prog 6 #[.agg #[.int .i64 a, .int .i64 b], .slice A0 n0 c0] W fun e w' => e = .returned (.bool true) ∧ Below W.heap.size W w' := by
  have HW := Lib.hid ((Below.refl W.heap.size W).alloc (Nat.le_refl _) (.cells #[.int .i64 a, .int .i64 b] 22))
  have g0 : ¬ a ≤ 12 := by omega
  have g1 : ¬ a ≤ 256 := by omega
  have g2 : ¬ 8 < b := by omega
  have g3 : ¬ b < 1 := by omega
  have HN := Lib.hid (fun w => new_bad w a b (by omega))
  go_enter Try.func6, Try.ntmps6
  go_wp2_with fail
  with_reducible refine Calls.mono (HN.out _) ?_
  rintro e w1 ⟨rfl, rfl⟩
  go_wp2_with fail
  all_goals (with_reducible refine Calls.mono (KvB.awake_run _) ?_
             rintro e w2 ⟨rfl, hb⟩
             have HB := Lib.hid hb
             clear hb
             go_wp2_with fail
             go_ret
             exact ⟨rfl, HW.out.trans (HB.out.mono (by simp))⟩)
set_option maxRecDepth 100000 in
theorem plays_b20 (W : World) (a b : Int) (A0 : Option Addr) (n0 c0 : Nat) (h1 : a ≤ 12) (h5 : 1 ≤ a) (h7 : a ≤ 256) (h3 : b ≤ 8) (h6 : b < 1) :
    Calls Try.prog 6 #[.agg #[.int .i64 a, .int .i64 b], .slice A0 n0 c0] W fun e w' => e = .returned (.bool true) ∧ Below W.heap.size W w' := by
  have HW := Lib.hid ((Below.refl W.heap.size W).alloc (Nat.le_refl _) (.cells #[.int .i64 a, .int .i64 b] 22))
  have g0 : ¬ 12 < a := by omega
  have g1 : ¬ a < 1 := by omega
  have g2 : ¬ 256 < a := by omega
  have g3 : ¬ 8 < b := by omega
  have g4 : ¬ 1 ≤ b := by omega
  have HN := Lib.hid (fun w => new_bad w a b (by omega))
  go_enter Try.func6, Try.ntmps6
  go_wp2_with fail
  with_reducible refine Calls.mono (HN.out _) ?_
  rintro e w1 ⟨rfl, rfl⟩
  go_wp2_with fail
  all_goals (with_reducible refine Calls.mono (KvB.awake_run _) ?_
             rintro e w2 ⟨rfl, hb⟩
             have HB := Lib.hid hb
             clear hb
             go_wp2_with fail
             go_ret
             exact ⟨rfl, HW.out.trans (HB.out.mono (by simp))⟩)
set_option maxRecDepth 100000 in
theorem plays_b21 (W : World) (a b : Int) (A0 : Option Addr) (n0 c0 : Nat) (h1 : a ≤ 12) (h5 : 1 ≤ a) (h7 : a ≤ 256) (h3 : 8 < b) (h6 : 64 < b) :
    Calls Try.prog 6 #[.agg #[.int .i64 a, .int .i64 b], .slice A0 n0 c0] W fun e w' => e = .returned (.bool true) ∧ Below W.heap.size W w' := by
  have HW := Lib.hid ((Below.refl W.heap.size W).alloc (Nat.le_refl _) (.cells #[.int .i64 a, .int .i64 b] 22))
  have g0 : ¬ 12 < a := by omega
  have g1 : ¬ a < 1 := by omega
  have g2 : ¬ 256 < a := by omega
  have g3 : ¬ b ≤ 8 := by omega
  have g4 : ¬ b ≤ 64 := by omega
  have HN := Lib.hid (fun w => new_bad w a b (by omega))
  go_enter Try.func6, Try.ntmps6
  go_wp2_with fail
  with_reducible refine Calls.mono (HN.out _) ?_
  rintro e w1 ⟨rfl, rfl⟩
  go_wp2_with fail
  all_goals (with_reducible refine Calls.mono (KvB.awake_run _) ?_
             rintro e w2 ⟨rfl, hb⟩
             have HB := Lib.hid hb
             clear hb
             go_wp2_with fail
             go_ret
             exact ⟨rfl, HW.out.trans (HB.out.mono (by simp))⟩)
set_option maxRecDepth 100000 in
theorem plays_long (W : World) (a b : Int) (A0 : Option Addr) (n0 c0 : Nat) (h1 : 1 ≤ a) (h2 : a ≤ 12) (h3 : 1 ≤ b) (h4 : b ≤ 8) (h5 : (50 : Int) < (n0 : Int)) :
    Calls Try.prog 6 #[.agg #[.int .i64 a, .int .i64 b], .slice A0 n0 c0] W fun e w' => e = .returned (.bool true) ∧ Below W.heap.size W w' := by
  have HW := Lib.hid ((Below.refl W.heap.size W).alloc (Nat.le_refl _) (.cells #[.int .i64 a, .int .i64 b] 22))
  have g0 : ¬ a < 1 := by omega
  have g1 : ¬ 12 < a := by omega
  have g2 : ¬ b < 1 := by omega
  have g3 : ¬ 8 < b := by omega
  obtain ⟨p, rfl⟩ := Int.eq_ofNat_of_zero_le (show 0 ≤ a by omega)
  obtain ⟨z, rfl⟩ := Int.eq_ofNat_of_zero_le (show 0 ≤ b by omega)
  have HN := Lib.hid (fun w => at_new w p z (by omega) (by omega))
  have g9 : (p : Int) ≤ 256 := by omega
  have g10 : (z : Int) ≤ 64 := by omega
  go_enter Try.func6, Try.ntmps6
  go_wp2_with fail
  with_reducible refine Calls.mono (HN.out _) ?_
  rintro e w1 ⟨rfl, h2⟩
  have HW2 : Hid (Below W.heap.size W w1) := HW.out.trans (h2.below.mono (by simp))
  have c0 : w1.cell? ⟨W.heap.size, 0, none⟩ = some (.int .i64 p) := (World.cell?_of_block (a := ⟨W.heap.size, 0, none⟩) (h2.below.block _ (by simp))).trans (by rw [cell_of_row _ W.heap.size _ _ _ _ (heap_alloc_new W _)]; rfl)
  have c1 : w1.cell? ⟨W.heap.size, 1, none⟩ = some (.int .i64 z) := (World.cell?_of_block (a := ⟨W.heap.size, 1, none⟩) (h2.below.block _ (by simp))).trans (by rw [cell_of_row _ W.heap.size _ _ _ _ (heap_alloc_new W _)]; rfl)
  clear h2
  go_wp2_with fail
  all_goals (with_reducible refine Calls.mono (KvB.awake_run _) ?_
             rintro e w2 ⟨rfl, hb⟩
             have HB := Lib.hid hb
             clear hb
             go_wp2_with fail
             go_ret
             exact ⟨rfl, HW2.out.trans (HB.out.mono HW2.out.size)⟩)
set_option maxRecDepth 100000 in
set_option maxHeartbeats 2000000 in
theorem plays_good (W : World) (p z : Nat) (hp : 1 ≤ p ∧ p ≤ 12) (hz : 1 ≤ z ∧ z ≤ 8) (v : Value) (l : List (Int × Int × Int)) (h0 : RdO W v l) (hl : l.length ≤ 50) :
    Calls Try.prog 6 #[.agg #[.int .i64 (p : Int), .int .i64 (z : Int)], v] W fun e w' => e = .returned (.bool true) ∧ Below W.heap.size W w' := by
  obtain ⟨A0, c0, rfl⟩ := h0.form
  have HN := Lib.hid (fun w => at_new w p z (by omega) (by omega))
  have HL := Lib.hid h0
  have HP := Lib.hid (And.intro hp hz)
  have g1 : (p : Int) ≤ 12 := by omega
  have g2 : ¬ 12 < (p : Int) := by omega
  have g3 : (z : Int) ≤ 8 := by omega
  have g4 : ¬ 8 < (z : Int) := by omega
  have g5 : ¬ (p : Int) < 1 := by omega
  have g6 : ¬ (z : Int) < 1 := by omega
  have g7 : ¬ 256 < (p : Int) := by omega
  have g8 : ¬ 64 < (z : Int) := by omega
  have g9 : ¬ (50 : Int) < (l.length : Int) := by omega
  have g11 : (1 : Int) ≤ (p : Int) := by omega
  have g12 : (1 : Int) ≤ (z : Int) := by omega
  have g13 : ¬ p = 0 := by omega
  have g14 : ¬ z = 0 := by omega
  have g15 : (p : Int) ≤ 256 := by omega
  have g16 : (z : Int) ≤ 64 := by omega
  have g10 : (l.length : Int) ≤ 50 := by omega
  obtain ⟨w1, hw1⟩ : ∃ w1, w1 = W.alloc (.cells #[.int .i64 (p : Int), .int .i64 (z : Int)] 22) := ⟨_, rfl⟩
  have hE : TwoEnv W w1 p z := by
    rw [hw1]
    exact ⟨(Below.refl W.heap.size W).alloc (Nat.le_refl _) _, by simp, heap_alloc_new _ _⟩
  have HE1 := Lib.hid hE
  have HW := Lib.hid hw1
  clear h0 hp hz hE hw1
  go_enter Try.func6, Try.ntmps6
  go_wp2_with fail
  rw [← HW.out]
  with_reducible refine Calls.mono (HN.out w1) ?_
  rintro e w2 ⟨rfl, h2⟩
  obtain ⟨p0, p1⟩ := (HE1.out.keep HE1.out.size h2.below).cells
  have H2 := Lib.hid h2
  clear h2
  go_wp2_with fail
  obtain ⟨w3, hw3⟩ : ∃ w3, w3 = w2.alloc (.cells #[.slice none 0 0, .int .i64 (p : Int), .int .i64 (z : Int)] 34) := ⟨_, rfl⟩
  rw [← hw3]
  have HB3 : Hid (Both w1.heap.size (w1.heap.size + 2) w2.heap.size p z w1 w3 (emptyP Int p z) (emptyP Int p z).rowsOf (fun _ => False)) := by
    rw [hw3]
    exact both_new H2.out
  have HS0 := Lib.hid (small_new p z ⟨HP.out.1.1, by have := HP.out.1.2; omega⟩ ⟨HP.out.2.1, by have := HP.out.2.2; omega⟩)
  clear p0 p1 hw3
  go_loopw [8] (fun vi wr => ∃ (k : Nat) (s : PSt Int), vi = .int .i64 k ∧ k ≤ l.length ∧ Hid (Small s p z k) ∧ Hid (Both w1.heap.size (w1.heap.size + 2) w2.heap.size p z w1 wr s s.rowsOf (fun _ => False)))
    (fun vi _ => l.length - (intOf vi).toNat)
  case atStart => exact ⟨0, _, rfl, Nat.zero_le _, HS0, HB3⟩
  case round =>
    clear HB3 HS0
    obtain ⟨k, s, rfl, hk, hS, hB⟩ := hrel
    have k1 : (k : Int) ≤ 50 := by omega
    by_cases hlt : k < l.length
    · have hlt' : (k : Int) < (l.length : Int) := by omega
      have hk0 : ¬ (k : Int) < 0 := by omega
      obtain ⟨⟨a, b, c⟩, hx⟩ : ∃ x, l[k]? = some x := ⟨_, List.getElem?_eq_getElem hlt⟩
      obtain ⟨ad, cp, e', -⟩ := HL.out.cell k a b c hx
      injection e' with e1 _ e3
      subst e1
      subst e3
      obtain ⟨x0, x1, x2⟩ := (HL.out.below (HE1.out.keep HE1.out.size hB.out.below.1).below).at hx
      have hs60 : Small s p z 60 := ⟨hS.out.inv, hS.out.np, hS.out.sz, by have := hS.out.rows; omega⟩
      have HC := Lib.hid (does_both hB.out hs60 HP.out.1.2 HP.out.2 a b c)
      have HS' := Lib.hid (small_do hS.out a b c)
      clear hx hs60
      go_wp2_with fail
      with_reducible refine Calls.mono HC.out ?_
      rintro e w4 ⟨rfl, h4⟩
      have HSm := Lib.hid (same_run h4 ⟨HS'.out.inv, HS'.out.np, HS'.out.sz, by have := HS'.out.rows; omega⟩ HP.out.1.2 HP.out.2)
      clear h4
      go_wp2_with fail
      with_reducible refine Calls.mono HSm.out ?_
      rintro e w5 ⟨rfl, h5⟩
      have H5 := Lib.hid h5
      clear h5
      go_wp2_with fail
      go_roundw
      case rel => exact ⟨k + 1, _, by go_num, by omega, HS', H5⟩
      case measure => simp [intOf]; omega
    · have hlt' : ¬ (k : Int) < (l.length : Int) := by omega
      go_wp2_with fail
      with_reducible refine Calls.mono (KvB.awake_run _) ?_
      rintro e w10 ⟨rfl, hb⟩
      have HB := Lib.hid hb
      clear hb
      go_wp2_with fail
      go_ret
      exact ⟨rfl, HE1.out.below.trans ((hB.out.below.1.trans (HB.out.mono hB.out.below.2)).mono (by have := HE1.out.size; omega))⟩
theorem plays_all (W : World) (a b : Int) (v : Value) (l : List (Int × Int × Int)) (h0 : RdO W v l) :
    Calls Try.prog 6 #[.agg #[.int .i64 a, .int .i64 b], v] W fun e w' => e = .returned (.bool true) ∧ Below W.heap.size W w' := by
  obtain ⟨A0, c0, e0⟩ := h0.form
  by_cases hA : 12 < a ∧ a ≤ 256
  · rw [e0]; exact plays_p W a b _ _ _ hA.1 hA.2
  by_cases hB : 8 < b ∧ b ≤ 64
  · rw [e0]
    by_cases ha : a ≤ 12
    · exact plays_z0 W a b _ _ _ ha hB.1 hB.2
    · exact plays_z1 W a b _ _ _ (by omega) (by omega) hB.1 hB.2
  by_cases ha : a < 1
  · rw [e0]
    by_cases hb : b < 1
    · exact plays_b00 W a b _ _ _ (by omega) ha (by omega) hb
    · by_cases hb2 : b ≤ 8
      · exact plays_b02 W a b _ _ _ (by omega) ha hb2 (by omega)
      · exact plays_b01 W a b _ _ _ (by omega) ha (by omega) (by omega)
  by_cases ha2 : 256 < a
  · rw [e0]
    by_cases hb : b < 1
    · exact plays_b10 W a b _ _ _ (by omega) ha2 (by omega) hb
    · by_cases hb2 : b ≤ 8
      · exact plays_b12 W a b _ _ _ (by omega) ha2 hb2 (by omega)
      · exact plays_b11 W a b _ _ _ (by omega) ha2 (by omega) (by omega)
  have ha3 : a ≤ 12 := by omega
  by_cases hb : b < 1
  · rw [e0]; exact plays_b20 W a b _ _ _ ha3 (by omega) (by omega) (by omega) hb
  by_cases hb2 : 64 < b
  · rw [e0]; exact plays_b21 W a b _ _ _ ha3 (by omega) (by omega) (by omega) hb2
  by_cases hl : 50 < l.length
  · rw [e0]; exact plays_long W a b _ _ _ (by omega) ha3 (by omega) (by omega) (by omega)
  obtain ⟨p, rfl⟩ := Int.eq_ofNat_of_zero_le (show 0 ≤ a by omega)
  obtain ⟨z, rfl⟩ := Int.eq_ofNat_of_zero_le (show 0 ≤ b by omega)
  exact plays_good W p z (by omega) (by omega) v l h0 (by omega)
end Go.Proofs.Ytackjeckafoojaa.KvI
