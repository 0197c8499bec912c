/- steps.Plan.Check of whatever three numbers; right, Places, Cells, Size, Steps, Step, Begin of a plan that may not be. · Plans that may not be: right, Places, Cells, Size, Step, Steps, Begin of them. · The law StepsNone. -/
import Derived.Test.YtfhaebaegkpkhaaPlI
import Derived.RangeFuncNested
import Derived.RangeFuncBound
import Derived.RangeFuncCalls
import Derived.RangeFuncLeaves
import Derived.Test.YtfhaebaegkpkhaaMdA
set_option linter.unusedVariables false
set_option linter.unusedSimpArgs false
namespace Go.Proofs.Ytfhaebaegkpkhaa.Pln
open Go.RowKit OwnS Byt Cfg Stp
attribute [local go_sem ↓] Kit.execOp_call_slot
attribute [local go_sem] Kit.callSlot_func
/-- What is wrong with a plan of sizes that may be. -/
def planErr (c : C6) (P limit K : Int) : Int :=
  if P < 1 ∨ limit < 1 then 13 else if c.c < P ∨ c.c - P < limit then 20 else if K < 1 ∨ c.v < K then 10 else 0
theorem no_bad {v : Int} (h : 1 ≤ v) (n : Nat) : ¬ ∃ t ∈ List.replicate n (0 : Int), badTok v t := by
  rintro ⟨t, ht, hb⟩
  obtain ⟨-, rfl⟩ := List.mem_replicate.1 ht
  unfold badTok at hb
  omega
theorem modelErr_plan {c : C6} (h0 : c.chk = 0) (n : Nat) (P limit K : Int) (hn : (P < 1 ∧ n = 0) ∨ (1 ≤ P ∧ P ≤ c.c ∧ (n : Int) = P) ∨ (c.c < P ∧ (n : Int) = c.c + 1)) : modelErr c (List.replicate n 0) limit K = planErr c P limit K := by
  obtain ⟨⟨v1, -⟩, -, -, -, ⟨g4, g5⟩, -⟩ := bounds_of h0
  have hb := no_bad v1 n
  unfold modelErr planErr
  rw [if_neg (by simpa using h0), List.length_replicate]
  by_cases e1 : P < 1 ∨ limit < 1
  · rw [if_pos (by omega), if_pos e1]
  · rw [if_neg (by omega), if_neg e1]
    by_cases e2 : c.c < P ∨ c.c - P < limit
    · rw [if_pos (by omega), if_pos e2]
    · rw [if_neg (by omega), if_neg e2]
      by_cases e3 : K < 1 ∨ c.v < K
      · rw [if_pos (.inr e3), if_pos e3]
      · rw [if_neg (by rintro (h | h); exact hb h; exact e3 h), if_neg e3]
set_option maxRecDepth 100000 in
set_option maxHeartbeats 4000000 in
theorem pcheck_low (W : World) (c : C6) (P limit K : Int) (h0 : c.chk = 0) (h1 : P < 0) :
    Calls Try.prog 24 #[.agg #[.int .i64 c.v, .int .i64 c.d, .int .i64 c.h, .int .i64 c.l, .int .i64 c.c, .int .i64 c.x, .int .i64 P, .int .i64 limit, .int .i64 K]] W fun e w' => e = .returned (.int .i64 (modelErr c (List.replicate (0) 0) limit K)) ∧ Below W.heap.size W w' := by
  obtain ⟨-, -, -, -, ⟨g4, g5⟩, -⟩ := bounds_of h0
  obtain ⟨pr, hpr⟩ : ∃ pr : Nat, pr = 0 := ⟨_, rfl⟩
  rw [← hpr]
  obtain ⟨w2, hw2⟩ : ∃ w2, w2 = W.alloc (.cells #[.int .i64 c.v, .int .i64 c.d, .int .i64 c.h, .int .i64 c.l, .int .i64 c.c, .int .i64 c.x, .int .i64 P, .int .i64 limit, .int .i64 K] 62) := ⟨_, rfl⟩
  have hb2 : Below W.heap.size W w2 := by rw [hw2]; exact (Below.refl _ _).alloc (Nat.le_refl _) _
  have hpl : w2.heap[W.heap.size]? = some (.cells [Value.int .i64 c.v, .int .i64 c.d, .int .i64 c.h, .int .i64 c.l, .int .i64 c.c, .int .i64 c.x, .int .i64 P, .int .i64 limit, .int .i64 K].toArray 62 (0, 0)) := by rw [hw2]; exact heap_alloc_new W _
  have hck := check_any c w2
  rw [h0] at hck
  have hfr : ∀ w, Below w2.heap.size w2 w → w.cell? ⟨W.heap.size, 0, none⟩ = some (.int .i64 c.v) ∧ w.cell? ⟨W.heap.size, 1, none⟩ = some (.int .i64 c.d) ∧ w.cell? ⟨W.heap.size, 2, none⟩ = some (.int .i64 c.h) ∧ w.cell? ⟨W.heap.size, 3, none⟩ = some (.int .i64 c.l) ∧ w.cell? ⟨W.heap.size, 4, none⟩ = some (.int .i64 c.c) ∧ w.cell? ⟨W.heap.size, 5, none⟩ = some (.int .i64 c.x) ∧ w.cell? ⟨W.heap.size, 6, none⟩ = some (.int .i64 P) ∧ w.cell? ⟨W.heap.size, 7, none⟩ = some (.int .i64 limit) ∧ w.cell? ⟨W.heap.size, 8, none⟩ = some (.int .i64 K) := fun w hb => by
    have k1 := (hb.block _ (Array.getElem?_eq_some_iff.1 hpl).1).trans hpl
    refine ⟨?_, ?_, ?_, ?_, ?_, ?_, ?_, ?_, ?_⟩ <;> (rw [cell_of_row _ _ _ _ _ _ k1]; rfl)
  obtain ⟨c0, c1, c2, c3, c4, c5, c6, c7, c8⟩ := hfr w2 (Below.refl _ _)
  have j1 : P ≤ 0 := by omega
  have j2 : ¬ 0 ≤ P := by omega
  have j4 : P ≤ c.c + 1 := by omega
  have hM : (0 : Int) = (pr : Int) := by omega
  have hpb : pr ≤ 65 := by omega
  obtain ⟨Z, hZ⟩ : ∃ Z : List Value, Z = intsV (List.replicate pr 0) := ⟨_, rfl⟩
  have hmk : ∀ w : World, (Instr.makeSlice 26 (.int .i64 0) (.int .i64 0)).run Try.prog w = .ok (.slice (some ⟨w.heap.size, 0, none⟩) pr pr) (w.alloc (.cells Z.toArray 3)) := fun w => by
    obtain ⟨i0, hi, hz0, hz1, hz2, -, -⟩ := infoI
    have := run_make (P := Try.prog) w 26 3 i0 _ Try.underlying26 hi hz0 .i64 .i64 (pr : Int) (pr : Int) (by omega) (by omega) (by rw [hz2]; omega) (by omega)
    rw [hz1] at this
    have e : (madeCells (Value.int .i64 0).cells (pr * 1)) = Z.toArray := by
      apply Array.ext'
      rw [show (Value.int .i64 0).cells = #[.int .i64 0] from rfl, toList_madeCells_one, hZ]
      simp [intsV]
    simp only [Int.toNat_natCast] at this
    rw [e] at this
    rw [hM]
    exact this
  have hmc := fun w (hb : Below w2.heap.size w2 w) => mcheck_any (w.alloc (.cells Z.toArray 3)) c [.slice (some ⟨w.heap.size, 0, none⟩) pr pr, .int .u8 0, .int .u8 0, .int .u8 0, .int .u8 0, .int .u8 0, .int .u8 0, .int .u8 0, .int .u8 0, .int .u8 0, .int .u8 0, .int .u8 0, .int .u8 0, .int .u8 0, .int .u8 0, .int .u8 0, .int .u8 0, .int .u8 0, .int .u8 0, .int .u8 0, .int .u8 0, .int .u8 0, .int .u8 0, .int .u8 0, .int .u8 0, .int .u8 0, .int .u8 0, .int .u8 0, .int .u8 0, .int .u8 0, .int .u8 0, .int .u8 0, .int .u8 0, .int .i64 K, .int .i64 limit, .slice none 0 0] (.slice (some ⟨w.heap.size, 0, none⟩) pr pr) (List.replicate pr 0) (ints_block (by rw [← hZ]; exact heap_alloc_new w _) pr (by simp) (by simp; omega)) (by simp; omega) K limit rfl rfl rfl
  obtain ⟨E, hE⟩ : ∃ E, E = modelErr c (List.replicate pr 0) limit K := ⟨_, rfl⟩
  rw [← hE] at hmc ⊢
  have HW := Lib.hid hw2
  have HC := Lib.hid (And.intro hb2 (And.intro hfr (And.intro hck hmc)))
  clear hw2 hb2 hfr hck hpl h0 hZ hmc hE hpr hM hpb
  go_enter Try.func24, Try.ntmps24
  go_upto_region 1 with fail
  rw [← HW.out]
  go_upto_region 5 with (go_at_call 58; (with_reducible refine Calls.mono HC.out.2.2.1 ?_); rintro e w3 ⟨rfl, hb3⟩; obtain ⟨d0, d1, d2, d3, d4, d5, d6, d7, d8⟩ := HC.out.2.1 w3 hb3; have HB := Lib.hid hb3; clear hb3 c0 c1 c2 c3 c4 c5 c6 c7 c8)
  have hmc := HC.out.2.2.2 w3 HB.out
  have hb34 : Below w3.heap.size w3 (w3.alloc (.cells Z.toArray 3)) := (Below.refl _ w3).alloc (Nat.le_refl _) _
  obtain ⟨w4, hw4⟩ : ∃ w4, w4 = w3.alloc (.cells Z.toArray 3) := ⟨_, rfl⟩
  rw [← hw4] at hmc hb34 ⊢
  obtain ⟨f0, f1, f2, f3, f4, f5, f6, f7, f8⟩ := HC.out.2.1 w4 (below_chain HB.out hb34)
  have H4 := Lib.hid (And.intro hmc hb34)
  clear hmc hb34 hw4 hmk d0 d1 d2 d3 d4 d5 d6 d7 d8
  go_wp2_with (go_at_call 75; (with_reducible refine Calls.mono H4.out.1 ?_); rintro e w5 ⟨rfl, hb5⟩; have H5 := Lib.hid hb5; clear hb5)
  go_ret
  exact ⟨rfl, below_chain HC.out.1 (below_chain HB.out (below_chain H4.out.2 H5.out))⟩
set_option maxRecDepth 100000 in
set_option maxHeartbeats 4000000 in
theorem pcheck_zero (W : World) (c : C6) (P limit K : Int) (h0 : c.chk = 0) (h1 : 0 = P) :
    Calls Try.prog 24 #[.agg #[.int .i64 c.v, .int .i64 c.d, .int .i64 c.h, .int .i64 c.l, .int .i64 c.c, .int .i64 c.x, .int .i64 P, .int .i64 limit, .int .i64 K]] W fun e w' => e = .returned (.int .i64 (modelErr c (List.replicate (0) 0) limit K)) ∧ Below W.heap.size W w' := by
  obtain ⟨-, -, -, -, ⟨g4, g5⟩, -⟩ := bounds_of h0
  obtain ⟨pr, hpr⟩ : ∃ pr : Nat, pr = 0 := ⟨_, rfl⟩
  rw [← hpr]
  obtain ⟨w2, hw2⟩ : ∃ w2, w2 = W.alloc (.cells #[.int .i64 c.v, .int .i64 c.d, .int .i64 c.h, .int .i64 c.l, .int .i64 c.c, .int .i64 c.x, .int .i64 P, .int .i64 limit, .int .i64 K] 62) := ⟨_, rfl⟩
  have hb2 : Below W.heap.size W w2 := by rw [hw2]; exact (Below.refl _ _).alloc (Nat.le_refl _) _
  have hpl : w2.heap[W.heap.size]? = some (.cells [Value.int .i64 c.v, .int .i64 c.d, .int .i64 c.h, .int .i64 c.l, .int .i64 c.c, .int .i64 c.x, .int .i64 P, .int .i64 limit, .int .i64 K].toArray 62 (0, 0)) := by rw [hw2]; exact heap_alloc_new W _
  have hck := check_any c w2
  rw [h0] at hck
  have hfr : ∀ w, Below w2.heap.size w2 w → w.cell? ⟨W.heap.size, 0, none⟩ = some (.int .i64 c.v) ∧ w.cell? ⟨W.heap.size, 1, none⟩ = some (.int .i64 c.d) ∧ w.cell? ⟨W.heap.size, 2, none⟩ = some (.int .i64 c.h) ∧ w.cell? ⟨W.heap.size, 3, none⟩ = some (.int .i64 c.l) ∧ w.cell? ⟨W.heap.size, 4, none⟩ = some (.int .i64 c.c) ∧ w.cell? ⟨W.heap.size, 5, none⟩ = some (.int .i64 c.x) ∧ w.cell? ⟨W.heap.size, 6, none⟩ = some (.int .i64 P) ∧ w.cell? ⟨W.heap.size, 7, none⟩ = some (.int .i64 limit) ∧ w.cell? ⟨W.heap.size, 8, none⟩ = some (.int .i64 K) := fun w hb => by
    have k1 := (hb.block _ (Array.getElem?_eq_some_iff.1 hpl).1).trans hpl
    refine ⟨?_, ?_, ?_, ?_, ?_, ?_, ?_, ?_, ?_⟩ <;> (rw [cell_of_row _ _ _ _ _ _ k1]; rfl)
  obtain ⟨c0, c1, c2, c3, c4, c5, c6, c7, c8⟩ := hfr w2 (Below.refl _ _)
  have j1 : (0 : Int) ≤ c.c + 1 := by omega
  have hM : (0 : Int) = (pr : Int) := by omega
  subst h1
  have hpb : pr ≤ 65 := by omega
  obtain ⟨Z, hZ⟩ : ∃ Z : List Value, Z = intsV (List.replicate pr 0) := ⟨_, rfl⟩
  have hmk : ∀ w : World, (Instr.makeSlice 26 (.int .i64 0) (.int .i64 0)).run Try.prog w = .ok (.slice (some ⟨w.heap.size, 0, none⟩) pr pr) (w.alloc (.cells Z.toArray 3)) := fun w => by
    obtain ⟨i0, hi, hz0, hz1, hz2, -, -⟩ := infoI
    have := run_make (P := Try.prog) w 26 3 i0 _ Try.underlying26 hi hz0 .i64 .i64 (pr : Int) (pr : Int) (by omega) (by omega) (by rw [hz2]; omega) (by omega)
    rw [hz1] at this
    have e : (madeCells (Value.int .i64 0).cells (pr * 1)) = Z.toArray := by
      apply Array.ext'
      rw [show (Value.int .i64 0).cells = #[.int .i64 0] from rfl, toList_madeCells_one, hZ]
      simp [intsV]
    simp only [Int.toNat_natCast] at this
    rw [e] at this
    rw [hM]
    exact this
  have hmc := fun w (hb : Below w2.heap.size w2 w) => mcheck_any (w.alloc (.cells Z.toArray 3)) c [.slice (some ⟨w.heap.size, 0, none⟩) pr pr, .int .u8 0, .int .u8 0, .int .u8 0, .int .u8 0, .int .u8 0, .int .u8 0, .int .u8 0, .int .u8 0, .int .u8 0, .int .u8 0, .int .u8 0, .int .u8 0, .int .u8 0, .int .u8 0, .int .u8 0, .int .u8 0, .int .u8 0, .int .u8 0, .int .u8 0, .int .u8 0, .int .u8 0, .int .u8 0, .int .u8 0, .int .u8 0, .int .u8 0, .int .u8 0, .int .u8 0, .int .u8 0, .int .u8 0, .int .u8 0, .int .u8 0, .int .u8 0, .int .i64 K, .int .i64 limit, .slice none 0 0] (.slice (some ⟨w.heap.size, 0, none⟩) pr pr) (List.replicate pr 0) (ints_block (by rw [← hZ]; exact heap_alloc_new w _) pr (by simp) (by simp; omega)) (by simp; omega) K limit rfl rfl rfl
  obtain ⟨E, hE⟩ : ∃ E, E = modelErr c (List.replicate pr 0) limit K := ⟨_, rfl⟩
  rw [← hE] at hmc ⊢
  have HW := Lib.hid hw2
  have HC := Lib.hid (And.intro hb2 (And.intro hfr (And.intro hck hmc)))
  clear hw2 hb2 hfr hck hpl h0 hZ hmc hE hpr hM hpb
  go_enter Try.func24, Try.ntmps24
  go_upto_region 1 with fail
  rw [← HW.out]
  go_upto_region 5 with (go_at_call 58; (with_reducible refine Calls.mono HC.out.2.2.1 ?_); rintro e w3 ⟨rfl, hb3⟩; obtain ⟨d0, d1, d2, d3, d4, d5, d6, d7, d8⟩ := HC.out.2.1 w3 hb3; have HB := Lib.hid hb3; clear hb3 c0 c1 c2 c3 c4 c5 c6 c7 c8)
  have hmc := HC.out.2.2.2 w3 HB.out
  have hb34 : Below w3.heap.size w3 (w3.alloc (.cells Z.toArray 3)) := (Below.refl _ w3).alloc (Nat.le_refl _) _
  obtain ⟨w4, hw4⟩ : ∃ w4, w4 = w3.alloc (.cells Z.toArray 3) := ⟨_, rfl⟩
  rw [← hw4] at hmc hb34 ⊢
  obtain ⟨f0, f1, f2, f3, f4, f5, f6, f7, f8⟩ := HC.out.2.1 w4 (below_chain HB.out hb34)
  have H4 := Lib.hid (And.intro hmc hb34)
  clear hmc hb34 hw4 hmk d0 d1 d2 d3 d4 d5 d6 d7 d8
  go_wp2_with (go_at_call 75; (with_reducible refine Calls.mono H4.out.1 ?_); rintro e w5 ⟨rfl, hb5⟩; have H5 := Lib.hid hb5; clear hb5)
  go_ret
  exact ⟨rfl, below_chain HC.out.1 (below_chain HB.out (below_chain H4.out.2 H5.out))⟩
set_option maxRecDepth 100000 in
set_option maxHeartbeats 4000000 in
theorem pcheck_high0 (W : World) (c : C6) (P limit K : Int) (h0 : c.chk = 0) (h1 : c.c + 1 = P) :
    Calls Try.prog 24 #[.agg #[.int .i64 c.v, .int .i64 c.d, .int .i64 c.h, .int .i64 c.l, .int .i64 c.c, .int .i64 c.x, .int .i64 P, .int .i64 limit, .int .i64 K]] W fun e w' => e = .returned (.int .i64 (modelErr c (List.replicate ((c.c + 1).toNat) 0) limit K)) ∧ Below W.heap.size W w' := by
  obtain ⟨-, -, -, -, ⟨g4, g5⟩, -⟩ := bounds_of h0
  obtain ⟨pr, hpr⟩ : ∃ pr : Nat, pr = (c.c + 1).toNat := ⟨_, rfl⟩
  rw [← hpr]
  obtain ⟨w2, hw2⟩ : ∃ w2, w2 = W.alloc (.cells #[.int .i64 c.v, .int .i64 c.d, .int .i64 c.h, .int .i64 c.l, .int .i64 c.c, .int .i64 c.x, .int .i64 P, .int .i64 limit, .int .i64 K] 62) := ⟨_, rfl⟩
  have hb2 : Below W.heap.size W w2 := by rw [hw2]; exact (Below.refl _ _).alloc (Nat.le_refl _) _
  have hpl : w2.heap[W.heap.size]? = some (.cells [Value.int .i64 c.v, .int .i64 c.d, .int .i64 c.h, .int .i64 c.l, .int .i64 c.c, .int .i64 c.x, .int .i64 P, .int .i64 limit, .int .i64 K].toArray 62 (0, 0)) := by rw [hw2]; exact heap_alloc_new W _
  have hck := check_any c w2
  rw [h0] at hck
  have hfr : ∀ w, Below w2.heap.size w2 w → w.cell? ⟨W.heap.size, 0, none⟩ = some (.int .i64 c.v) ∧ w.cell? ⟨W.heap.size, 1, none⟩ = some (.int .i64 c.d) ∧ w.cell? ⟨W.heap.size, 2, none⟩ = some (.int .i64 c.h) ∧ w.cell? ⟨W.heap.size, 3, none⟩ = some (.int .i64 c.l) ∧ w.cell? ⟨W.heap.size, 4, none⟩ = some (.int .i64 c.c) ∧ w.cell? ⟨W.heap.size, 5, none⟩ = some (.int .i64 c.x) ∧ w.cell? ⟨W.heap.size, 6, none⟩ = some (.int .i64 P) ∧ w.cell? ⟨W.heap.size, 7, none⟩ = some (.int .i64 limit) ∧ w.cell? ⟨W.heap.size, 8, none⟩ = some (.int .i64 K) := fun w hb => by
    have k1 := (hb.block _ (Array.getElem?_eq_some_iff.1 hpl).1).trans hpl
    refine ⟨?_, ?_, ?_, ?_, ?_, ?_, ?_, ?_, ?_⟩ <;> (rw [cell_of_row _ _ _ _ _ _ k1]; rfl)
  obtain ⟨c0, c1, c2, c3, c4, c5, c6, c7, c8⟩ := hfr w2 (Below.refl _ _)
  subst h1
  have j2 : (0 : Int) ≤ c.c + 1 := by omega
  have j4 : (0 : Int) ≤ c.c := by omega
  have hM : c.c + 1 = (pr : Int) := by omega
  have hpb : pr ≤ 65 := by omega
  obtain ⟨Z, hZ⟩ : ∃ Z : List Value, Z = intsV (List.replicate pr 0) := ⟨_, rfl⟩
  have hmk : ∀ w : World, (Instr.makeSlice 26 (.int .i64 (c.c + 1)) (.int .i64 (c.c + 1))).run Try.prog w = .ok (.slice (some ⟨w.heap.size, 0, none⟩) pr pr) (w.alloc (.cells Z.toArray 3)) := fun w => by
    obtain ⟨i0, hi, hz0, hz1, hz2, -, -⟩ := infoI
    have := run_make (P := Try.prog) w 26 3 i0 _ Try.underlying26 hi hz0 .i64 .i64 (pr : Int) (pr : Int) (by omega) (by omega) (by rw [hz2]; omega) (by omega)
    rw [hz1] at this
    have e : (madeCells (Value.int .i64 0).cells (pr * 1)) = Z.toArray := by
      apply Array.ext'
      rw [show (Value.int .i64 0).cells = #[.int .i64 0] from rfl, toList_madeCells_one, hZ]
      simp [intsV]
    simp only [Int.toNat_natCast] at this
    rw [e] at this
    rw [hM]
    exact this
  have hmc := fun w (hb : Below w2.heap.size w2 w) => mcheck_any (w.alloc (.cells Z.toArray 3)) c [.slice (some ⟨w.heap.size, 0, none⟩) pr pr, .int .u8 0, .int .u8 0, .int .u8 0, .int .u8 0, .int .u8 0, .int .u8 0, .int .u8 0, .int .u8 0, .int .u8 0, .int .u8 0, .int .u8 0, .int .u8 0, .int .u8 0, .int .u8 0, .int .u8 0, .int .u8 0, .int .u8 0, .int .u8 0, .int .u8 0, .int .u8 0, .int .u8 0, .int .u8 0, .int .u8 0, .int .u8 0, .int .u8 0, .int .u8 0, .int .u8 0, .int .u8 0, .int .u8 0, .int .u8 0, .int .u8 0, .int .u8 0, .int .i64 K, .int .i64 limit, .slice none 0 0] (.slice (some ⟨w.heap.size, 0, none⟩) pr pr) (List.replicate pr 0) (ints_block (by rw [← hZ]; exact heap_alloc_new w _) pr (by simp) (by simp; omega)) (by simp; omega) K limit rfl rfl rfl
  obtain ⟨E, hE⟩ : ∃ E, E = modelErr c (List.replicate pr 0) limit K := ⟨_, rfl⟩
  rw [← hE] at hmc ⊢
  have HW := Lib.hid hw2
  have HC := Lib.hid (And.intro hb2 (And.intro hfr (And.intro hck hmc)))
  clear hw2 hb2 hfr hck hpl h0 hZ hmc hE hpr hM hpb
  go_enter Try.func24, Try.ntmps24
  go_upto_region 1 with fail
  rw [← HW.out]
  go_upto_region 5 with (go_at_call 58; (with_reducible refine Calls.mono HC.out.2.2.1 ?_); rintro e w3 ⟨rfl, hb3⟩; obtain ⟨d0, d1, d2, d3, d4, d5, d6, d7, d8⟩ := HC.out.2.1 w3 hb3; have HB := Lib.hid hb3; clear hb3 c0 c1 c2 c3 c4 c5 c6 c7 c8)
  have hmc := HC.out.2.2.2 w3 HB.out
  have hb34 : Below w3.heap.size w3 (w3.alloc (.cells Z.toArray 3)) := (Below.refl _ w3).alloc (Nat.le_refl _) _
  obtain ⟨w4, hw4⟩ : ∃ w4, w4 = w3.alloc (.cells Z.toArray 3) := ⟨_, rfl⟩
  rw [← hw4] at hmc hb34 ⊢
  obtain ⟨f0, f1, f2, f3, f4, f5, f6, f7, f8⟩ := HC.out.2.1 w4 (below_chain HB.out hb34)
  have H4 := Lib.hid (And.intro hmc hb34)
  clear hmc hb34 hw4 hmk d0 d1 d2 d3 d4 d5 d6 d7 d8
  go_wp2_with (go_at_call 75; (with_reducible refine Calls.mono H4.out.1 ?_); rintro e w5 ⟨rfl, hb5⟩; have H5 := Lib.hid hb5; clear hb5)
  go_ret
  exact ⟨rfl, below_chain HC.out.1 (below_chain HB.out (below_chain H4.out.2 H5.out))⟩
set_option maxRecDepth 100000 in
set_option maxHeartbeats 4000000 in
theorem pcheck_high (W : World) (c : C6) (P limit K : Int) (h0 : c.chk = 0) (h1 : c.c + 1 < P) :
    Calls Try.prog 24 #[.agg #[.int .i64 c.v, .int .i64 c.d, .int .i64 c.h, .int .i64 c.l, .int .i64 c.c, .int .i64 c.x, .int .i64 P, .int .i64 limit, .int .i64 K]] W fun e w' => e = .returned (.int .i64 (modelErr c (List.replicate ((c.c + 1).toNat) 0) limit K)) ∧ Below W.heap.size W w' := by
  obtain ⟨-, -, -, -, ⟨g4, g5⟩, -⟩ := bounds_of h0
  obtain ⟨pr, hpr⟩ : ∃ pr : Nat, pr = (c.c + 1).toNat := ⟨_, rfl⟩
  rw [← hpr]
  obtain ⟨w2, hw2⟩ : ∃ w2, w2 = W.alloc (.cells #[.int .i64 c.v, .int .i64 c.d, .int .i64 c.h, .int .i64 c.l, .int .i64 c.c, .int .i64 c.x, .int .i64 P, .int .i64 limit, .int .i64 K] 62) := ⟨_, rfl⟩
  have hb2 : Below W.heap.size W w2 := by rw [hw2]; exact (Below.refl _ _).alloc (Nat.le_refl _) _
  have hpl : w2.heap[W.heap.size]? = some (.cells [Value.int .i64 c.v, .int .i64 c.d, .int .i64 c.h, .int .i64 c.l, .int .i64 c.c, .int .i64 c.x, .int .i64 P, .int .i64 limit, .int .i64 K].toArray 62 (0, 0)) := by rw [hw2]; exact heap_alloc_new W _
  have hck := check_any c w2
  rw [h0] at hck
  have hfr : ∀ w, Below w2.heap.size w2 w → w.cell? ⟨W.heap.size, 0, none⟩ = some (.int .i64 c.v) ∧ w.cell? ⟨W.heap.size, 1, none⟩ = some (.int .i64 c.d) ∧ w.cell? ⟨W.heap.size, 2, none⟩ = some (.int .i64 c.h) ∧ w.cell? ⟨W.heap.size, 3, none⟩ = some (.int .i64 c.l) ∧ w.cell? ⟨W.heap.size, 4, none⟩ = some (.int .i64 c.c) ∧ w.cell? ⟨W.heap.size, 5, none⟩ = some (.int .i64 c.x) ∧ w.cell? ⟨W.heap.size, 6, none⟩ = some (.int .i64 P) ∧ w.cell? ⟨W.heap.size, 7, none⟩ = some (.int .i64 limit) ∧ w.cell? ⟨W.heap.size, 8, none⟩ = some (.int .i64 K) := fun w hb => by
    have k1 := (hb.block _ (Array.getElem?_eq_some_iff.1 hpl).1).trans hpl
    refine ⟨?_, ?_, ?_, ?_, ?_, ?_, ?_, ?_, ?_⟩ <;> (rw [cell_of_row _ _ _ _ _ _ k1]; rfl)
  obtain ⟨c0, c1, c2, c3, c4, c5, c6, c7, c8⟩ := hfr w2 (Below.refl _ _)
  have j1 : c.c + 1 ≤ P := by omega
  have j3 : ¬ P ≤ c.c + 1 := by omega
  have j2 : (0 : Int) ≤ c.c + 1 := by omega
  have j4 : (0 : Int) ≤ c.c := by omega
  have hM : c.c + 1 = (pr : Int) := by omega
  have hpb : pr ≤ 65 := by omega
  obtain ⟨Z, hZ⟩ : ∃ Z : List Value, Z = intsV (List.replicate pr 0) := ⟨_, rfl⟩
  have hmk : ∀ w : World, (Instr.makeSlice 26 (.int .i64 (c.c + 1)) (.int .i64 (c.c + 1))).run Try.prog w = .ok (.slice (some ⟨w.heap.size, 0, none⟩) pr pr) (w.alloc (.cells Z.toArray 3)) := fun w => by
    obtain ⟨i0, hi, hz0, hz1, hz2, -, -⟩ := infoI
    have := run_make (P := Try.prog) w 26 3 i0 _ Try.underlying26 hi hz0 .i64 .i64 (pr : Int) (pr : Int) (by omega) (by omega) (by rw [hz2]; omega) (by omega)
    rw [hz1] at this
    have e : (madeCells (Value.int .i64 0).cells (pr * 1)) = Z.toArray := by
      apply Array.ext'
      rw [show (Value.int .i64 0).cells = #[.int .i64 0] from rfl, toList_madeCells_one, hZ]
      simp [intsV]
    simp only [Int.toNat_natCast] at this
    rw [e] at this
    rw [hM]
    exact this
  have hmc := fun w (hb : Below w2.heap.size w2 w) => mcheck_any (w.alloc (.cells Z.toArray 3)) c [.slice (some ⟨w.heap.size, 0, none⟩) pr pr, .int .u8 0, .int .u8 0, .int .u8 0, .int .u8 0, .int .u8 0, .int .u8 0, .int .u8 0, .int .u8 0, .int .u8 0, .int .u8 0, .int .u8 0, .int .u8 0, .int .u8 0, .int .u8 0, .int .u8 0, .int .u8 0, .int .u8 0, .int .u8 0, .int .u8 0, .int .u8 0, .int .u8 0, .int .u8 0, .int .u8 0, .int .u8 0, .int .u8 0, .int .u8 0, .int .u8 0, .int .u8 0, .int .u8 0, .int .u8 0, .int .u8 0, .int .u8 0, .int .i64 K, .int .i64 limit, .slice none 0 0] (.slice (some ⟨w.heap.size, 0, none⟩) pr pr) (List.replicate pr 0) (ints_block (by rw [← hZ]; exact heap_alloc_new w _) pr (by simp) (by simp; omega)) (by simp; omega) K limit rfl rfl rfl
  obtain ⟨E, hE⟩ : ∃ E, E = modelErr c (List.replicate pr 0) limit K := ⟨_, rfl⟩
  rw [← hE] at hmc ⊢
  have HW := Lib.hid hw2
  have HC := Lib.hid (And.intro hb2 (And.intro hfr (And.intro hck hmc)))
  clear hw2 hb2 hfr hck hpl h0 hZ hmc hE hpr hM hpb
  go_enter Try.func24, Try.ntmps24
  go_upto_region 1 with fail
  rw [← HW.out]
  go_upto_region 5 with (go_at_call 58; (with_reducible refine Calls.mono HC.out.2.2.1 ?_); rintro e w3 ⟨rfl, hb3⟩; obtain ⟨d0, d1, d2, d3, d4, d5, d6, d7, d8⟩ := HC.out.2.1 w3 hb3; have HB := Lib.hid hb3; clear hb3 c0 c1 c2 c3 c4 c5 c6 c7 c8)
  have hmc := HC.out.2.2.2 w3 HB.out
  have hb34 : Below w3.heap.size w3 (w3.alloc (.cells Z.toArray 3)) := (Below.refl _ w3).alloc (Nat.le_refl _) _
  obtain ⟨w4, hw4⟩ : ∃ w4, w4 = w3.alloc (.cells Z.toArray 3) := ⟨_, rfl⟩
  rw [← hw4] at hmc hb34 ⊢
  obtain ⟨f0, f1, f2, f3, f4, f5, f6, f7, f8⟩ := HC.out.2.1 w4 (below_chain HB.out hb34)
  have H4 := Lib.hid (And.intro hmc hb34)
  clear hmc hb34 hw4 hmk d0 d1 d2 d3 d4 d5 d6 d7 d8
  go_wp2_with (go_at_call 75; (with_reducible refine Calls.mono H4.out.1 ?_); rintro e w5 ⟨rfl, hb5⟩; have H5 := Lib.hid hb5; clear hb5)
  go_ret
  exact ⟨rfl, below_chain HC.out.1 (below_chain HB.out (below_chain H4.out.2 H5.out))⟩
/-- Plan.Check of sizes that may be. -/
theorem pcheck_any (W : World) (c : C6) (P limit K : Int) (h0 : c.chk = 0) :
    Calls Try.prog 24 #[.agg #[.int .i64 c.v, .int .i64 c.d, .int .i64 c.h, .int .i64 c.l, .int .i64 c.c, .int .i64 c.x, .int .i64 P, .int .i64 limit, .int .i64 K]] W fun e w' => e = .returned (.int .i64 (planErr c P limit K)) ∧ Below W.heap.size W w' := by
  obtain ⟨-, -, -, -, ⟨g4, g5⟩, -⟩ := bounds_of h0
  by_cases h1 : P < 1
  · rw [← modelErr_plan h0 0 P limit K (.inl ⟨h1, rfl⟩)]
    by_cases h3 : P < 0
    · exact pcheck_low W c P limit K h0 h3
    · exact pcheck_zero W c P limit K h0 (by omega)
  · by_cases h2 : c.c < P
    · rw [← modelErr_plan h0 (c.c + 1).toNat P limit K (.inr (.inr ⟨h2, by omega⟩))]
      by_cases h3 : c.c + 1 = P
      · exact pcheck_high0 W c P limit K h0 h3
      · exact pcheck_high W c P limit K h0 (by omega)
    · obtain ⟨pr, rfl⟩ := Int.eq_ofNat_of_zero_le (show 0 ≤ P by omega)
      rw [← modelErr_plan h0 pr pr limit K (.inr (.inl ⟨by omega, by omega, rfl⟩))]
      exact pcheck_right W c pr limit K h0 ⟨by omega, by omega⟩
end Go.Proofs.Ytfhaebaegkpkhaa.Pln

set_option linter.unusedVariables false
set_option linter.unusedSimpArgs false
namespace Go.Proofs.Ytfhaebaegkpkhaa.Pln
open Go.RowKit OwnS Byt Cfg Stp Go.Shelf
attribute [local go_sem ↓] Kit.execOp_call_slot
attribute [local go_sem] Kit.callSlot_func
def planL (c : C6) (P limit K : Int) : List Value := [.int .i64 c.v, .int .i64 c.d, .int .i64 c.h, .int .i64 c.l, .int .i64 c.c, .int .i64 c.x, .int .i64 P, .int .i64 limit, .int .i64 K]
/-- A plan of sizes that may be, which itself may not be. -/
structure NoPlan (c : C6) (P limit K : Int) : Prop where
  sz : c.chk = 0
  ne : planErr c P limit K ≠ 0
theorem right_no (W : World) (c : C6) (P limit K : Int) (h : NoPlan c P limit K) : Calls Try.prog 81 #[.agg (planL c P limit K).toArray] W fun e w' => e = .returned (.bool false) ∧ Below W.heap.size W w' := by
  have hck := fun w => pcheck_any w c P limit K h.sz
  obtain ⟨E, hE⟩ : ∃ E, E = planErr c P limit K := ⟨_, rfl⟩
  have hne := h.ne
  rw [← hE] at hck hne
  have hne' : (E == 0) = false := by simpa using hne
  have HC := Lib.hid hck
  clear hck hE
  unfold planL
  go_enter Try.func81, Try.ntmps81
  go_wp2_with (go_at_call 24; (with_reducible refine Calls.mono (HC.out _) ?_); rintro e w3 ⟨rfl, hb3⟩; have HB := Lib.hid hb3; clear hb3)
  go_ret
  exact ⟨rfl, ((Below.refl _ _).alloc (Nat.le_refl _) _).trans (HB.out.mono (by simp))⟩
theorem places_no (W : World) (c : C6) (P limit K : Int) (h : NoPlan c P limit K) : Calls Try.prog 30 #[.agg (planL c P limit K).toArray] W fun e w' => e = .returned (.int .i64 0) ∧ Below W.heap.size W w' := by
  have hr := fun w => right_no w c P limit K h
  obtain ⟨w2, hw2⟩ : ∃ w2, w2 = W.alloc (.cells (planL c P limit K).toArray 62) := ⟨_, rfl⟩
  have hb2 : Below W.heap.size W w2 := by rw [hw2]; exact (Below.refl _ _).alloc (Nat.le_refl _) _
  have hpl : w2.heap[W.heap.size]? = some (.cells (planL c P limit K).toArray 62 (0, 0)) := by rw [hw2]; exact heap_alloc_new W _
  have HW := Lib.hid hw2
  have HC := Lib.hid (And.intro hb2 (And.intro hr hpl))
  clear hw2 hb2 hr hpl h
  go_enter Try.func30, Try.ntmps30
  go_upto_region 1 with fail
  rw [← HW.out]
  go_wp2_with (first | (refine wpList_load_mid rfl 62 (.tmp 1) rfl W.heap.size 0 rfl (planL c P limit K) _ (rangeAt_whole HC.out.2.2) Try.underlying62 rfl plan_size ?_; simp only [Act.put, List.setIfInBounds_toArray, List.set_cons_succ, List.set_cons_zero]) | (go_at_call 81; (with_reducible refine Calls.mono (HC.out.2.1 w2) ?_); rintro e w3 ⟨rfl, hb3⟩; have HB := Lib.hid hb3; clear hb3))
  go_ret
  exact ⟨rfl, below_chain HC.out.1 HB.out⟩
theorem cells_no (W : World) (c : C6) (P limit K : Int) (h : NoPlan c P limit K) : Calls Try.prog 29 #[.agg (planL c P limit K).toArray] W fun e w' => e = .returned (.int .i64 0) ∧ Below W.heap.size W w' := by
  have hr := fun w => right_no w c P limit K h
  obtain ⟨w2, hw2⟩ : ∃ w2, w2 = W.alloc (.cells (planL c P limit K).toArray 62) := ⟨_, rfl⟩
  have hb2 : Below W.heap.size W w2 := by rw [hw2]; exact (Below.refl _ _).alloc (Nat.le_refl _) _
  have hpl : w2.heap[W.heap.size]? = some (.cells (planL c P limit K).toArray 62 (0, 0)) := by rw [hw2]; exact heap_alloc_new W _
  have HW := Lib.hid hw2
  have HC := Lib.hid (And.intro hb2 (And.intro hr hpl))
  clear hw2 hb2 hr hpl h
  go_enter Try.func29, Try.ntmps29
  go_upto_region 1 with fail
  rw [← HW.out]
  go_wp2_with (first | (refine wpList_load_mid rfl 62 (.tmp 1) rfl W.heap.size 0 rfl (planL c P limit K) _ (rangeAt_whole HC.out.2.2) Try.underlying62 rfl plan_size ?_; simp only [Act.put, List.setIfInBounds_toArray, List.set_cons_succ, List.set_cons_zero]) | (go_at_call 81; (with_reducible refine Calls.mono (HC.out.2.1 w2) ?_); rintro e w3 ⟨rfl, hb3⟩; have HB := Lib.hid hb3; clear hb3))
  go_ret
  exact ⟨rfl, below_chain HC.out.1 HB.out⟩
theorem size_no (W : World) (c : C6) (P limit K : Int) (h : NoPlan c P limit K) : Calls Try.prog 31 #[.agg (planL c P limit K).toArray, .int .i64 0] W fun e w' => e = .returned (.int .i64 0) ∧ Below W.heap.size W w' := by
  have hr := fun w => cells_no w c P limit K h
  unfold planL at hr
  obtain ⟨w2, hw2⟩ : ∃ w2, w2 = W.alloc (.cells (planL c P limit K).toArray 62) := ⟨_, rfl⟩
  have hb2 : Below W.heap.size W w2 := by rw [hw2]; exact (Below.refl _ _).alloc (Nat.le_refl _) _
  have hpl : w2.heap[W.heap.size]? = some (.cells (planL c P limit K).toArray 62 (0, 0)) := by rw [hw2]; exact heap_alloc_new W _
  have d0 : w2.cell? ⟨W.heap.size, 0, none⟩ = some (.int .i64 c.v) := by rw [cell_of_row _ _ 0 _ _ _ hpl]; rfl
  have d1 : w2.cell? ⟨W.heap.size, 1, none⟩ = some (.int .i64 c.d) := by rw [cell_of_row _ _ 1 _ _ _ hpl]; rfl
  have d2 : w2.cell? ⟨W.heap.size, 2, none⟩ = some (.int .i64 c.h) := by rw [cell_of_row _ _ 2 _ _ _ hpl]; rfl
  have d3 : w2.cell? ⟨W.heap.size, 3, none⟩ = some (.int .i64 c.l) := by rw [cell_of_row _ _ 3 _ _ _ hpl]; rfl
  have d4 : w2.cell? ⟨W.heap.size, 4, none⟩ = some (.int .i64 c.c) := by rw [cell_of_row _ _ 4 _ _ _ hpl]; rfl
  have d5 : w2.cell? ⟨W.heap.size, 5, none⟩ = some (.int .i64 c.x) := by rw [cell_of_row _ _ 5 _ _ _ hpl]; rfl
  have d6 : w2.cell? ⟨W.heap.size, 6, none⟩ = some (.int .i64 P) := by rw [cell_of_row _ _ 6 _ _ _ hpl]; rfl
  have d7 : w2.cell? ⟨W.heap.size, 7, none⟩ = some (.int .i64 limit) := by rw [cell_of_row _ _ 7 _ _ _ hpl]; rfl
  have d8 : w2.cell? ⟨W.heap.size, 8, none⟩ = some (.int .i64 K) := by rw [cell_of_row _ _ 8 _ _ _ hpl]; rfl
  have HW := Lib.hid hw2
  have HC := Lib.hid (And.intro hb2 (And.intro hr hpl))
  clear hw2 hb2 hr hpl h
  go_enter Try.func31, Try.ntmps31
  go_upto_region 1 with fail
  rw [← HW.out]
  go_wp2_with ((go_at_call 29; (with_reducible refine Calls.mono (HC.out.2.1 w2) ?_); rintro e w3 ⟨rfl, hb3⟩; have HB := Lib.hid hb3; clear hb3))
  go_ret
  exact ⟨rfl, below_chain HC.out.1 HB.out⟩
theorem begin_no (W : World) (c : C6) (P limit K : Int) (h : NoPlan c P limit K) : Calls Try.prog 28 #[.agg (planL c P limit K).toArray, .slice none 0 0] W fun e w' => e = .returned (.tuple #[.slice none 0 0, .int .i64 (planErr c P limit K)]) ∧ Below W.heap.size W w' := by
  have hr : ∀ w, Calls Try.prog 24 #[.agg (planL c P limit K).toArray] w fun e w' => e = .returned (.int .i64 (planErr c P limit K)) ∧ Below w.heap.size w w' := fun w => pcheck_any w c P limit K h.sz
  obtain ⟨E, hE⟩ : ∃ E, E = planErr c P limit K := ⟨_, rfl⟩
  have hne := h.ne
  rw [← hE] at hne ⊢
  simp only [← hE] at hr
  have hne' : (E == 0) = false := by simpa using hne
  obtain ⟨w2, hw2⟩ : ∃ w2, w2 = W.alloc (.cells (planL c P limit K).toArray 62) := ⟨_, rfl⟩
  have hb2 : Below W.heap.size W w2 := by rw [hw2]; exact (Below.refl _ _).alloc (Nat.le_refl _) _
  have hpl : w2.heap[W.heap.size]? = some (.cells (planL c P limit K).toArray 62 (0, 0)) := by rw [hw2]; exact heap_alloc_new W _
  have HW := Lib.hid hw2
  have HC := Lib.hid (And.intro hb2 (And.intro hr hpl))
  clear hw2 hb2 hr hpl h hE
  go_enter Try.func28, Try.ntmps28
  go_upto_region 1 with fail
  rw [← HW.out]
  go_wp2_with (first | (refine wpList_load_mid rfl 62 (.tmp 2) rfl W.heap.size 0 rfl (planL c P limit K) _ (rangeAt_whole HC.out.2.2) Try.underlying62 rfl plan_size ?_; simp only [Act.put, List.setIfInBounds_toArray, List.set_cons_succ, List.set_cons_zero]) | (go_at_call 24; (with_reducible refine Calls.mono (HC.out.2.1 w2) ?_); rintro e w3 ⟨rfl, hb3⟩; have HB := Lib.hid hb3; clear hb3))
  go_ret2
  exact ⟨rfl, below_chain HC.out.1 HB.out⟩
/-- Steps: a closure over the plan in memory. -/
def StepsAt (W : World) (L : List Value) (e : Ending) (w' : World) : Prop := ∃ q, e = .returned (.func (.func 77) #[] #[.pointer (some ⟨q, 0, none⟩)]) ∧ W.heap.size ≤ q ∧ w'.heap[q]? = some (.cells L.toArray 62 (0, 0)) ∧ Below W.heap.size W w'
theorem steps_any (W : World) (L : List Value) : Calls Try.prog 26 #[.agg L.toArray] W (StepsAt W L) := by
  go_enter Try.func26, Try.ntmps26
  go_wp2_with fail
  go_ret
  exact ⟨_, rfl, Nat.le_refl _, heap_alloc_new W _, (Below.refl _ _).alloc (Nat.le_refl _) _⟩
theorem step0_no (W : World) (c : C6) (P limit K : Int) (h : NoPlan c P limit K) : Calls Try.prog 27 #[.agg (planL c P limit K).toArray, .int .i64 0] W fun e w' => e = .returned (.tuple #[.agg #[.int .i64 0, .int .i64 0, .int .i64 0, .int .i64 0, .int .i64 0], .int .i64 10]) ∧ Below W.heap.size W w' := by
  have hr := fun w => places_no w c P limit K h
  obtain ⟨w2, hw2⟩ : ∃ w2, w2 = (W.alloc (.cells (planL c P limit K).toArray 62)).alloc (.cells #[.int .i64 0, .int .i64 0, .int .i64 0, .int .i64 0, .int .i64 0] 69) := ⟨_, rfl⟩
  have hb2 : Below W.heap.size W w2 := by rw [hw2]; exact ((Below.refl _ _).alloc (Nat.le_refl _) _).alloc (by simp) _
  have hpl : w2.heap[W.heap.size]? = some (.cells (planL c P limit K).toArray 62 (0, 0)) := by rw [hw2, Below.heap_alloc _ _ _ (by simp)]; exact heap_alloc_new W _
  have hst : w2.heap[W.heap.size + 1]? = some (.cells [Value.int .i64 0, .int .i64 0, .int .i64 0, .int .i64 0, .int .i64 0].toArray 69 (0, 0)) := by
    rw [hw2]
    have := heap_alloc_new (W.alloc (.cells (planL c P limit K).toArray 62)) (.cells #[.int .i64 0, .int .i64 0, .int .i64 0, .int .i64 0, .int .i64 0] 69)
    simpa using this
  have hs2 : w2.heap.size = W.heap.size + 2 := by rw [hw2]; simp
  have HW := Lib.hid hw2
  have HC := Lib.hid (And.intro hb2 (And.intro hr (And.intro hpl (And.intro hst hs2))))
  clear hw2 hb2 hr hpl h hst hs2
  go_enter Try.func27, Try.ntmps27
  go_upto_region 1 with fail
  rw [← HW.out]
  go_wp2_with (first | (refine wpList_load_mid rfl 62 (.tmp 2) rfl W.heap.size 0 rfl (planL c P limit K) _ (rangeAt_whole HC.out.2.2.1) Try.underlying62 rfl plan_size ?_; simp only [Act.put, List.setIfInBounds_toArray, List.set_cons_succ, List.set_cons_zero]) | (go_at_call 30; (with_reducible refine Calls.mono (HC.out.2.1 w2) ?_); rintro e w3 ⟨rfl, hb3⟩; have HB := Lib.hid hb3; clear hb3))
  go_loopw [13] (fun v13 wr => v13 = .int .i64 0 ∧ Hid (wr = w3)) (fun _ _ => 0)
  case atStart => exact ⟨rfl, Lib.hid rfl⟩
  case round =>
    obtain ⟨rfl, hI⟩ := hrel
    obtain rfl := hI.out
    have hstb := (HB.out.block _ (by have := HC.out.2.2.2.2; omega)).trans HC.out.2.2.2.1
    have e0 : wr.cell? ⟨W.heap.size + 1, 0, none⟩ = some (.int .i64 0) := by rw [cell_of_row _ _ 0 _ _ _ hstb]; rfl
    have e1 : wr.cell? ⟨W.heap.size + 1, 1, none⟩ = some (.int .i64 0) := by rw [cell_of_row _ _ 1 _ _ _ hstb]; rfl
    have e2 : wr.cell? ⟨W.heap.size + 1, 2, none⟩ = some (.int .i64 0) := by rw [cell_of_row _ _ 2 _ _ _ hstb]; rfl
    have e3 : wr.cell? ⟨W.heap.size + 1, 3, none⟩ = some (.int .i64 0) := by rw [cell_of_row _ _ 3 _ _ _ hstb]; rfl
    have e4 : wr.cell? ⟨W.heap.size + 1, 4, none⟩ = some (.int .i64 0) := by rw [cell_of_row _ _ 4 _ _ _ hstb]; rfl
    have f0 := frozen_of_row wr (W.heap.size + 1) 0 _ _ hstb
    have f1 := frozen_of_row wr (W.heap.size + 1) 1 _ _ hstb
    have f2 := frozen_of_row wr (W.heap.size + 1) 2 _ _ hstb
    have f3 := frozen_of_row wr (W.heap.size + 1) 3 _ _ hstb
    have f4 := frozen_of_row wr (W.heap.size + 1) 4 _ _ hstb
    have HE := Lib.hid hstb
    clear hstb hI
    have hres : ∀ w, (((((wr.setCell ⟨W.heap.size + 1, 0, none⟩ (.int .i64 0)).setCell ⟨W.heap.size + 1, 1, none⟩ (.int .i64 0)).setCell ⟨W.heap.size + 1, 2, none⟩ (.int .i64 0)).setCell ⟨W.heap.size + 1, 3, none⟩ (.int .i64 0)).setCell ⟨W.heap.size + 1, 4, none⟩ (.int .i64 0)) = w → Below W.heap.size W w := fun w e => by
      subst e
      exact ((((((below_chain HC.out.1 HB.out).setCell (p := ⟨W.heap.size + 1, 0, none⟩) (by simp) _).setCell (p := ⟨W.heap.size + 1, 1, none⟩) (by simp) _).setCell (p := ⟨W.heap.size + 1, 2, none⟩) (by simp) _).setCell (p := ⟨W.heap.size + 1, 3, none⟩) (by simp) _).setCell (p := ⟨W.heap.size + 1, 4, none⟩) (by simp) _)
    have HR := Lib.hid hres
    clear hres
    go_wp2_with fail
    refine bodyPost_ret (v := .tuple #[.agg #[.int .i64 0, .int .i64 0, .int .i64 0, .int .i64 0, .int .i64 0], .int .i64 10]) (by simp [results, Try.f27, go_sem, e0, e1, e2, e3, e4]) rfl ⟨rfl, HR.out _ rfl⟩
/-- No step. -/
theorem steps1_no (W : World) (c : C6) (P limit K : Int) (h : NoPlan c P limit K) (yv : Value) (q : Nat) (hq : W.heap[q]? = some (.cells (planL c P limit K).toArray 62 (0, 0))) : Calls Try.prog 77 #[yv, .pointer (some ⟨q, 0, none⟩)] W fun e w' => (∃ v, e = .returned v) ∧ Below W.heap.size W w' := by
  have hr := fun w => places_no w c P limit K h
  have HC := Lib.hid (And.intro hr hq)
  clear hr hq h
  go_enter Try.func77, Try.ntmps77
  go_wp2_with (first | (refine wpList_load_mid rfl 62 (.tmp 1) rfl q 0 rfl (planL c P limit K) _ (rangeAt_whole HC.out.2) Try.underlying62 rfl plan_size ?_; simp only [Act.put, List.setIfInBounds_toArray, List.set_cons_succ, List.set_cons_zero]) | (go_at_call 30; (with_reducible refine Calls.mono (HC.out.1 _) ?_); rintro e w3 ⟨rfl, hb3⟩; have HB := Lib.hid hb3; clear hb3))
  go_loopw [8] (fun v8 wr => v8 = .int .i64 0 ∧ Hid (wr = w3)) (fun _ _ => 0)
  case atStart => exact ⟨rfl, Lib.hid rfl⟩
  case round =>
    obtain ⟨rfl, hI⟩ := hrel
    obtain rfl := hI.out
    clear hI
    go_wp2_with fail
    go_end0
    exact ⟨⟨_, rfl⟩, HB.out⟩
end Go.Proofs.Ytfhaebaegkpkhaa.Pln

set_option linter.unusedVariables false
set_option linter.unusedSimpArgs false
namespace Go.Proofs.Ytfhaebaegkpkhaa.Pln
open Go.RowKit OwnS Byt Cfg Stp Go.Shelf Fil
attribute [local go_sem ↓] Kit.execOp_call_slot
attribute [local go_sem] Kit.callSlot_func
theorem grown_of_below {W W' : World} (h : Below W.heap.size W W') : W.grownBy W' none := ⟨h.os, h.tape, h.output, h.size, fun k hk _ => h.block k hk⟩
/-- Steps of a plan that may not be: none. -/
theorem seq_no (n : Nat) (w : World) (q : Nat) (c : C6) (P limit K : Int) (h : NoPlan c P limit K) (hq : w.heap[q]? = some (.cells (planL c P limit K).toArray 62 (0, 0))) :
    SeqStopsK Fence.wide n Try.prog 77 #[.pointer (some ⟨q, 0, none⟩)] (fun x : Stp.Stp => #[x.val]) (fun _ _ => True) (fun ys => ys = []) (fun _ => False) 0 w := by
  intro l J Jx W hW hA _ hY hJ0
  have hlt : q < w.heap.size := (Array.getElem?_eq_some_iff.1 hq).1
  refine CallsIn.mono (callsIn_wide.2 (steps1_no W c P limit K h (.func (.yield l) #[] #[]) q ((hW.block q hlt).trans hq))) ?_
  rintro e W' ⟨he, hb⟩
  exact ⟨he, .inl ⟨[], rfl, hA [] W W' none hJ0 (grown_of_below hb) (by simp)⟩⟩
theorem size_pos (p : Pln) (ctx K : Int) (h : Okp p ctx K) : 0 < (stepsL p).length := by
  obtain ⟨-, f1, f2⟩ := h.facts
  obtain ⟨g1, g2⟩ := h.2.1
  unfold stepsL
  obtain ⟨n, hn⟩ : ∃ n, p.places = n + 1 := ⟨p.places - 1, by unfold Pln.places; omega⟩
  rw [hn, stepsTo_succ, List.length_append]
  have := placeL_pos p n
  omega
theorem run_equalIn_func_nil {P : Program} (w : World) (d : Nat) (t : TypeId) {p : Array TypeId} {r : Array TypeId} {v : Bool} (f : Fn) (a b : Array Value) (h : P.underlying t = some (.func p r v)) :
    (Op.equalIn (d + 1) t (.func f a b) .nilFunc).run P w = .ok false w := by
  simp [Op.equalIn, run_underlying h]
theorem seq_ne_nil (w : World) (f : Fn) (a b : Array Value) : (binOp .eql 66 (.func f a b) .nilFunc).run Try.prog w = .ok (.bool false) w := by
  simp only [binOp]
  simp [Op.equal, Op.maxDepth, run_equalIn_func_nil w 9999 _ f a b Try.underlying66]
theorem many_no (W : World) (c : C6) (P limit K : Int) (h : NoPlan c P limit K) : Calls Try.prog 25 #[.agg (planL c P limit K).toArray] W fun e w' => e = .returned (.int .i64 0) ∧ Below W.heap.size W w' := by
  have hr := fun w => places_no w c P limit K h
  obtain ⟨w2, hw2⟩ : ∃ w2, w2 = W.alloc (.cells (planL c P limit K).toArray 62) := ⟨_, rfl⟩
  have hb2 : Below W.heap.size W w2 := by rw [hw2]; exact (Below.refl _ _).alloc (Nat.le_refl _) _
  have hpl : w2.heap[W.heap.size]? = some (.cells (planL c P limit K).toArray 62 (0, 0)) := by rw [hw2]; exact heap_alloc_new W _
  have HW := Lib.hid hw2
  have HC := Lib.hid (And.intro hb2 (And.intro hr hpl))
  clear hw2 hb2 hr hpl h
  go_enter Try.func25, Try.ntmps25
  go_upto_region 1 with fail
  rw [← HW.out]
  go_wp2_with (first | (refine wpList_load_mid rfl 62 (.tmp 1) rfl W.heap.size 0 rfl (planL c P limit K) _ (rangeAt_whole HC.out.2.2) Try.underlying62 rfl plan_size ?_; simp only [Act.put, List.setIfInBounds_toArray, List.set_cons_succ, List.set_cons_zero]) | (go_at_call 30; (with_reducible refine Calls.mono (HC.out.2.1 w2) ?_); rintro e w3 ⟨rfl, hb3⟩; have HB := Lib.hid hb3; clear hb3))
  go_loopw [3, 7] (fun v3 v7 wr => v3 = .int .i64 0 ∧ v7 = .int .i64 0 ∧ Hid (wr = w3)) (fun _ _ _ => 0)
  case atStart => exact ⟨rfl, rfl, Lib.hid rfl⟩
  case round =>
    obtain ⟨rfl, rfl, hI⟩ := hrel
    obtain rfl := hI.out
    clear hI
    go_wp2_with fail
    go_ret
    exact ⟨rfl, below_chain HC.out.1 HB.out⟩
/-- A plan that may be, in numbers. -/
theorem plan_of {c : C6} {a b k : Int} (h0 : c.chk = 0) (h1 : planErr c a b k = 0) : ∃ p : Pln, planL c a b k = planC p c.c k ∧ Okp p c.c k := by
  obtain ⟨⟨g0, -⟩, ⟨g1, -⟩, ⟨g2, -⟩, ⟨g3, -⟩, ⟨g4, -⟩, ⟨g5, -⟩⟩ := bounds_of h0
  have hk : ¬ (a < 1 ∨ b < 1) ∧ ¬ (c.c < a ∨ c.c - a < b) := by
    unfold planErr at h1
    by_cases e1 : a < 1 ∨ b < 1
    · rw [if_pos e1] at h1; cases h1
    · rw [if_neg e1] at h1
      by_cases e2 : c.c < a ∨ c.c - a < b
      · rw [if_pos e2] at h1; cases h1
      · exact ⟨e1, e2⟩
  obtain ⟨v, hv⟩ := Int.eq_ofNat_of_zero_le (show 0 ≤ c.v by omega)
  obtain ⟨d, hd⟩ := Int.eq_ofNat_of_zero_le (show 0 ≤ c.d by omega)
  obtain ⟨hh, hhd⟩ := Int.eq_ofNat_of_zero_le (show 0 ≤ c.h by omega)
  obtain ⟨l, hl⟩ := Int.eq_ofNat_of_zero_le (show 0 ≤ c.l by omega)
  obtain ⟨x, hx⟩ := Int.eq_ofNat_of_zero_le (show 0 ≤ c.x by omega)
  obtain ⟨pa, ha⟩ := Int.eq_ofNat_of_zero_le (show 0 ≤ a by omega)
  obtain ⟨pb, hb⟩ := Int.eq_ofNat_of_zero_le (show 0 ≤ b by omega)
  have hc6 : c6P ⟨d, hh, l, x, v, pa, pb⟩ c.c = c := by
    unfold c6P
    cases c
    simp only at hv hd hhd hl hx ⊢
    simp only [hv, hd, hhd, hl, hx]
  refine ⟨⟨d, hh, l, x, v, pa, pb⟩, ?_, ?_⟩
  · unfold planL planC
    rw [hv, hd, hhd, hl, hx, ha, hb]
  · refine ⟨by rw [hc6]; exact h0, by simp only; omega, ?_⟩
    rw [hc6, modelErr_plan h0 pa a pb k (.inr (.inl ⟨by omega, by omega, ha.symm⟩)), ← hb]
    exact h1
end Go.Proofs.Ytfhaebaegkpkhaa.Pln
