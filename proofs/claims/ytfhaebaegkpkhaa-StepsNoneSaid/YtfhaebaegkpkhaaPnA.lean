/- steps.Plan.Check of whatever three numbers; right, Places, Cells, Size, Steps, Step, Begin of a plan that may not be. -/
import Derived.Test.YtfhaebaegkpkhaaPlI
set_option linter.unusedVariables false
set_option linter.unusedSimpArgs false
namespace Go.Proofs.Ytfhaebaegkpkhaa.Pln
open Go.RowKit OwnS Byt Cfg Stp
attribute [local go_sem ↓] Kit.execOp_call_slot
attribute [local go_sem] Kit.callSlot_func
/-- What is wrong with a plan of sizes that may be. -/
def planErr (c : C6) (P limit K : Int) : Int :=
  if P < 1 ∨ limit < 1 then 13 else if c.c < P ∨ c.c - P < limit then 20 else if K < 1 ∨ c.v < K then 10 else 0
theorem no_bad {v : Int} (h : 1 ≤ v) (n : Nat) : ¬ ∃ t ∈ List.replicate n (0 : Int), badTok v t := by
  rintro ⟨t, ht, hb⟩
  obtain ⟨-, rfl⟩ := List.mem_replicate.1 ht
  unfold badTok at hb
  omega
theorem modelErr_plan {c : C6} (h0 : c.chk = 0) (n : Nat) (P limit K : Int) (hn : (P < 1 ∧ n = 0) ∨ (1 ≤ P ∧ P ≤ c.c ∧ (n : Int) = P) ∨ (c.c < P ∧ (n : Int) = c.c + 1)) : modelErr c (List.replicate n 0) limit K = planErr c P limit K := by
  obtain ⟨⟨v1, -⟩, -, -, -, ⟨g4, g5⟩, -⟩ := bounds_of h0
  have hb := no_bad v1 n
  unfold modelErr planErr
  rw [if_neg (by simpa using h0), List.length_replicate]
  by_cases e1 : P < 1 ∨ limit < 1
  · rw [if_pos (by omega), if_pos e1]
  · rw [if_neg (by omega), if_neg e1]
    by_cases e2 : c.c < P ∨ c.c - P < limit
    · rw [if_pos (by omega), if_pos e2]
    · rw [if_neg (by omega), if_neg e2]
      by_cases e3 : K < 1 ∨ c.v < K
      · rw [if_pos (.inr e3), if_pos e3]
      · rw [if_neg (by rintro (h | h); exact hb h; exact e3 h), if_neg e3]
set_option maxRecDepth 100000 in
set_option maxHeartbeats 4000000 in
theorem pcheck_low (W : World) (c : C6) (P limit K : Int) (h0 : c.chk = 0) (h1 : P < 0) :
    Calls Try.prog 24 #[.agg #[.int .i64 c.v, .int .i64 c.d, .int .i64 c.h, .int .i64 c.l, .int .i64 c.c, .int .i64 c.x, .int .i64 P, .int .i64 limit, .int .i64 K]] W fun e w' => e = .returned (.int .i64 (modelErr c (List.replicate (0) 0) limit K)) ∧ Below W.heap.size W w' := by
  obtain ⟨-, -, -, -, ⟨g4, g5⟩, -⟩ := bounds_of h0
  obtain ⟨pr, hpr⟩ : ∃ pr : Nat, pr = 0 := ⟨_, rfl⟩
  rw [← hpr]
  obtain ⟨w2, hw2⟩ : ∃ w2, w2 = W.alloc (.cells #[.int .i64 c.v, .int .i64 c.d, .int .i64 c.h, .int .i64 c.l, .int .i64 c.c, .int .i64 c.x, .int .i64 P, .int .i64 limit, .int .i64 K] 62) := ⟨_, rfl⟩
  have hb2 : Below W.heap.size W w2 := by rw [hw2]; exact (Below.refl _ _).alloc (Nat.le_refl _) _
  have hpl : w2.heap[W.heap.size]? = some (.cells [Value.int .i64 c.v, .int .i64 c.d, .int .i64 c.h, .int .i64 c.l, .int .i64 c.c, .int .i64 c.x, .int .i64 P, .int .i64 limit, .int .i64 K].toArray 62 (0, 0)) := by rw [hw2]; exact heap_alloc_new W _
  have hck := check_any c w2
  rw [h0] at hck
  have hfr : ∀ w, Below w2.heap.size w2 w → w.cell? ⟨W.heap.size, 0, none⟩ = some (.int .i64 c.v) ∧ w.cell? ⟨W.heap.size, 1, none⟩ = some (.int .i64 c.d) ∧ w.cell? ⟨W.heap.size, 2, none⟩ = some (.int .i64 c.h) ∧ w.cell? ⟨W.heap.size, 3, none⟩ = some (.int .i64 c.l) ∧ w.cell? ⟨W.heap.size, 4, none⟩ = some (.int .i64 c.c) ∧ w.cell? ⟨W.heap.size, 5, none⟩ = some (.int .i64 c.x) ∧ w.cell? ⟨W.heap.size, 6, none⟩ = some (.int .i64 P) ∧ w.cell? ⟨W.heap.size, 7, none⟩ = some (.int .i64 limit) ∧ w.cell? ⟨W.heap.size, 8, none⟩ = some (.int .i64 K) := fun w hb => by
    have k1 := (hb.block _ (Array.getElem?_eq_some_iff.1 hpl).1).trans hpl
    refine ⟨?_, ?_, ?_, ?_, ?_, ?_, ?_, ?_, ?_⟩ <;> (rw [cell_of_row _ _ _ _ _ _ k1]; rfl)
  obtain ⟨c0, c1, c2, c3, c4, c5, c6, c7, c8⟩ := hfr w2 (Below.refl _ _)
  have j1 : P ≤ 0 := by omega
  have j2 : ¬ 0 ≤ P := by omega
  have j4 : P ≤ c.c + 1 := by omega
  have hM : (0 : Int) = (pr : Int) := by omega
  have hpb : pr ≤ 65 := by omega
  obtain ⟨Z, hZ⟩ : ∃ Z : List Value, Z = intsV (List.replicate pr 0) := ⟨_, rfl⟩
  have hmk : ∀ w : World, (Instr.makeSlice 26 (.int .i64 0) (.int .i64 0)).run Try.prog w = .ok (.slice (some ⟨w.heap.size, 0, none⟩) pr pr) (w.alloc (.cells Z.toArray 3)) := fun w => by
    obtain ⟨i0, hi, hz0, hz1, hz2, -, -⟩ := infoI
    have := run_make (P := Try.prog) w 26 3 i0 _ Try.underlying26 hi hz0 .i64 .i64 (pr : Int) (pr : Int) (by omega) (by omega) (by rw [hz2]; omega) (by omega)
    rw [hz1] at this
    have e : (madeCells (Value.int .i64 0).cells (pr * 1)) = Z.toArray := by
      apply Array.ext'
      rw [show (Value.int .i64 0).cells = #[.int .i64 0] from rfl, toList_madeCells_one, hZ]
      simp [intsV]
    simp only [Int.toNat_natCast] at this
    rw [e] at this
    rw [hM]
    exact this
  have hmc := fun w (hb : Below w2.heap.size w2 w) => mcheck_any (w.alloc (.cells Z.toArray 3)) c [.slice (some ⟨w.heap.size, 0, none⟩) pr pr, .int .u8 0, .int .u8 0, .int .u8 0, .int .u8 0, .int .u8 0, .int .u8 0, .int .u8 0, .int .u8 0, .int .u8 0, .int .u8 0, .int .u8 0, .int .u8 0, .int .u8 0, .int .u8 0, .int .u8 0, .int .u8 0, .int .u8 0, .int .u8 0, .int .u8 0, .int .u8 0, .int .u8 0, .int .u8 0, .int .u8 0, .int .u8 0, .int .u8 0, .int .u8 0, .int .u8 0, .int .u8 0, .int .u8 0, .int .u8 0, .int .u8 0, .int .u8 0, .int .i64 K, .int .i64 limit, .slice none 0 0] (.slice (some ⟨w.heap.size, 0, none⟩) pr pr) (List.replicate pr 0) (ints_block (by rw [← hZ]; exact heap_alloc_new w _) pr (by simp) (by simp; omega)) (by simp; omega) K limit rfl rfl rfl
  obtain ⟨E, hE⟩ : ∃ E, E = modelErr c (List.replicate pr 0) limit K := ⟨_, rfl⟩
  rw [← hE] at hmc ⊢
  have HW := Lib.hid hw2
  have HC := Lib.hid (And.intro hb2 (And.intro hfr (And.intro hck hmc)))
  clear hw2 hb2 hfr hck hpl h0 hZ hmc hE hpr hM hpb
  go_enter Try.func24, Try.ntmps24
  go_upto_region 1 with fail
  rw [← HW.out]
  go_upto_region 5 with (go_at_call 58; (with_reducible refine Calls.mono HC.out.2.2.1 ?_); rintro e w3 ⟨rfl, hb3⟩; obtain ⟨d0, d1, d2, d3, d4, d5, d6, d7, d8⟩ := HC.out.2.1 w3 hb3; have HB := Lib.hid hb3; clear hb3 c0 c1 c2 c3 c4 c5 c6 c7 c8)
  have hmc := HC.out.2.2.2 w3 HB.out
  have hb34 : Below w3.heap.size w3 (w3.alloc (.cells Z.toArray 3)) := (Below.refl _ w3).alloc (Nat.le_refl _) _
  obtain ⟨w4, hw4⟩ : ∃ w4, w4 = w3.alloc (.cells Z.toArray 3) := ⟨_, rfl⟩
  rw [← hw4] at hmc hb34 ⊢
  obtain ⟨f0, f1, f2, f3, f4, f5, f6, f7, f8⟩ := HC.out.2.1 w4 (below_chain HB.out hb34)
  have H4 := Lib.hid (And.intro hmc hb34)
  clear hmc hb34 hw4 hmk d0 d1 d2 d3 d4 d5 d6 d7 d8
  go_wp2_with (go_at_call 75; (with_reducible refine Calls.mono H4.out.1 ?_); rintro e w5 ⟨rfl, hb5⟩; have H5 := Lib.hid hb5; clear hb5)
  go_ret
  exact ⟨rfl, below_chain HC.out.1 (below_chain HB.out (below_chain H4.out.2 H5.out))⟩
set_option maxRecDepth 100000 in
set_option maxHeartbeats 4000000 in
theorem pcheck_zero (W : World) (c : C6) (P limit K : Int) (h0 : c.chk = 0) (h1 : 0 = P) :
    Calls Try.prog 24 #[.agg #[.int .i64 c.v, .int .i64 c.d, .int .i64 c.h, .int .i64 c.l, .int .i64 c.c, .int .i64 c.x, .int .i64 P, .int .i64 limit, .int .i64 K]] W fun e w' => e = .returned (.int .i64 (modelErr c (List.replicate (0) 0) limit K)) ∧ Below W.heap.size W w' := by
  obtain ⟨-, -, -, -, ⟨g4, g5⟩, -⟩ := bounds_of h0
  obtain ⟨pr, hpr⟩ : ∃ pr : Nat, pr = 0 := ⟨_, rfl⟩
  rw [← hpr]
  obtain ⟨w2, hw2⟩ : ∃ w2, w2 = W.alloc (.cells #[.int .i64 c.v, .int .i64 c.d, .int .i64 c.h, .int .i64 c.l, .int .i64 c.c, .int .i64 c.x, .int .i64 P, .int .i64 limit, .int .i64 K] 62) := ⟨_, rfl⟩
  have hb2 : Below W.heap.size W w2 := by rw [hw2]; exact (Below.refl _ _).alloc (Nat.le_refl _) _
  have hpl : w2.heap[W.heap.size]? = some (.cells [Value.int .i64 c.v, .int .i64 c.d, .int .i64 c.h, .int .i64 c.l, .int .i64 c.c, .int .i64 c.x, .int .i64 P, .int .i64 limit, .int .i64 K].toArray 62 (0, 0)) := by rw [hw2]; exact heap_alloc_new W _
  have hck := check_any c w2
  rw [h0] at hck
  have hfr : ∀ w, Below w2.heap.size w2 w → w.cell? ⟨W.heap.size, 0, none⟩ = some (.int .i64 c.v) ∧ w.cell? ⟨W.heap.size, 1, none⟩ = some (.int .i64 c.d) ∧ w.cell? ⟨W.heap.size, 2, none⟩ = some (.int .i64 c.h) ∧ w.cell? ⟨W.heap.size, 3, none⟩ = some (.int .i64 c.l) ∧ w.cell? ⟨W.heap.size, 4, none⟩ = some (.int .i64 c.c) ∧ w.cell? ⟨W.heap.size, 5, none⟩ = some (.int .i64 c.x) ∧ w.cell? ⟨W.heap.size, 6, none⟩ = some (.int .i64 P) ∧ w.cell? ⟨W.heap.size, 7, none⟩ = some (.int .i64 limit) ∧ w.cell? ⟨W.heap.size, 8, none⟩ = some (.int .i64 K) := fun w hb => by
    have k1 := (hb.block _ (Array.getElem?_eq_some_iff.1 hpl).1).trans hpl
    refine ⟨?_, ?_, ?_, ?_, ?_, ?_, ?_, ?_, ?_⟩ <;> (rw [cell_of_row _ _ _ _ _ _ k1]; rfl)
  obtain ⟨c0, c1, c2, c3, c4, c5, c6, c7, c8⟩ := hfr w2 (Below.refl _ _)
  have j1 : (0 : Int) ≤ c.c + 1 := by omega
  have hM : (0 : Int) = (pr : Int) := by omega
  subst h1
  have hpb : pr ≤ 65 := by omega
  obtain ⟨Z, hZ⟩ : ∃ Z : List Value, Z = intsV (List.replicate pr 0) := ⟨_, rfl⟩
  have hmk : ∀ w : World, (Instr.makeSlice 26 (.int .i64 0) (.int .i64 0)).run Try.prog w = .ok (.slice (some ⟨w.heap.size, 0, none⟩) pr pr) (w.alloc (.cells Z.toArray 3)) := fun w => by
    obtain ⟨i0, hi, hz0, hz1, hz2, -, -⟩ := infoI
    have := run_make (P := Try.prog) w 26 3 i0 _ Try.underlying26 hi hz0 .i64 .i64 (pr : Int) (pr : Int) (by omega) (by omega) (by rw [hz2]; omega) (by omega)
    rw [hz1] at this
    have e : (madeCells (Value.int .i64 0).cells (pr * 1)) = Z.toArray := by
      apply Array.ext'
      rw [show (Value.int .i64 0).cells = #[.int .i64 0] from rfl, toList_madeCells_one, hZ]
      simp [intsV]
    simp only [Int.toNat_natCast] at this
    rw [e] at this
    rw [hM]
    exact this
  have hmc := fun w (hb : Below w2.heap.size w2 w) => mcheck_any (w.alloc (.cells Z.toArray 3)) c [.slice (some ⟨w.heap.size, 0, none⟩) pr pr, .int .u8 0, .int .u8 0, .int .u8 0, .int .u8 0, .int .u8 0, .int .u8 0, .int .u8 0, .int .u8 0, .int .u8 0, .int .u8 0, .int .u8 0, .int .u8 0, .int .u8 0, .int .u8 0, .int .u8 0, .int .u8 0, .int .u8 0, .int .u8 0, .int .u8 0, .int .u8 0, .int .u8 0, .int .u8 0, .int .u8 0, .int .u8 0, .int .u8 0, .int .u8 0, .int .u8 0, .int .u8 0, .int .u8 0, .int .u8 0, .int .u8 0, .int .u8 0, .int .i64 K, .int .i64 limit, .slice none 0 0] (.slice (some ⟨w.heap.size, 0, none⟩) pr pr) (List.replicate pr 0) (ints_block (by rw [← hZ]; exact heap_alloc_new w _) pr (by simp) (by simp; omega)) (by simp; omega) K limit rfl rfl rfl
  obtain ⟨E, hE⟩ : ∃ E, E = modelErr c (List.replicate pr 0) limit K := ⟨_, rfl⟩
  rw [← hE] at hmc ⊢
  have HW := Lib.hid hw2
  have HC := Lib.hid (And.intro hb2 (And.intro hfr (And.intro hck hmc)))
  clear hw2 hb2 hfr hck hpl h0 hZ hmc hE hpr hM hpb
  go_enter Try.func24, Try.ntmps24
  go_upto_region 1 with fail
  rw [← HW.out]
  go_upto_region 5 with (go_at_call 58; (with_reducible refine Calls.mono HC.out.2.2.1 ?_); rintro e w3 ⟨rfl, hb3⟩; obtain ⟨d0, d1, d2, d3, d4, d5, d6, d7, d8⟩ := HC.out.2.1 w3 hb3; have HB := Lib.hid hb3; clear hb3 c0 c1 c2 c3 c4 c5 c6 c7 c8)
  have hmc := HC.out.2.2.2 w3 HB.out
  have hb34 : Below w3.heap.size w3 (w3.alloc (.cells Z.toArray 3)) := (Below.refl _ w3).alloc (Nat.le_refl _) _
  obtain ⟨w4, hw4⟩ : ∃ w4, w4 = w3.alloc (.cells Z.toArray 3) := ⟨_, rfl⟩
  rw [← hw4] at hmc hb34 ⊢
  obtain ⟨f0, f1, f2, f3, f4, f5, f6, f7, f8⟩ := HC.out.2.1 w4 (below_chain HB.out hb34)
  have H4 := Lib.hid (And.intro hmc hb34)
  clear hmc hb34 hw4 hmk d0 d1 d2 d3 d4 d5 d6 d7 d8
  go_wp2_with (go_at_call 75; (with_reducible refine Calls.mono H4.out.1 ?_); rintro e w5 ⟨rfl, hb5⟩; have H5 := Lib.hid hb5; clear hb5)
  go_ret
  exact ⟨rfl, below_chain HC.out.1 (below_chain HB.out (below_chain H4.out.2 H5.out))⟩
set_option maxRecDepth 100000 in
set_option maxHeartbeats 4000000 in
theorem pcheck_high0 (W : World) (c : C6) (P limit K : Int) (h0 : c.chk = 0) (h1 : c.c + 1 = P) :
    Calls Try.prog 24 #[.agg #[.int .i64 c.v, .int .i64 c.d, .int .i64 c.h, .int .i64 c.l, .int .i64 c.c, .int .i64 c.x, .int .i64 P, .int .i64 limit, .int .i64 K]] W fun e w' => e = .returned (.int .i64 (modelErr c (List.replicate ((c.c + 1).toNat) 0) limit K)) ∧ Below W.heap.size W w' := by
  obtain ⟨-, -, -, -, ⟨g4, g5⟩, -⟩ := bounds_of h0
  obtain ⟨pr, hpr⟩ : ∃ pr : Nat, pr = (c.c + 1).toNat := ⟨_, rfl⟩
  rw [← hpr]
  obtain ⟨w2, hw2⟩ : ∃ w2, w2 = W.alloc (.cells #[.int .i64 c.v, .int .i64 c.d, .int .i64 c.h, .int .i64 c.l, .int .i64 c.c, .int .i64 c.x, .int .i64 P, .int .i64 limit, .int .i64 K] 62) := ⟨_, rfl⟩
  have hb2 : Below W.heap.size W w2 := by rw [hw2]; exact (Below.refl _ _).alloc (Nat.le_refl _) _
  have hpl : w2.heap[W.heap.size]? = some (.cells [Value.int .i64 c.v, .int .i64 c.d, .int .i64 c.h, .int .i64 c.l, .int .i64 c.c, .int .i64 c.x, .int .i64 P, .int .i64 limit, .int .i64 K].toArray 62 (0, 0)) := by rw [hw2]; exact heap_alloc_new W _
  have hck := check_any c w2
  rw [h0] at hck
  have hfr : ∀ w, Below w2.heap.size w2 w → w.cell? ⟨W.heap.size, 0, none⟩ = some (.int .i64 c.v) ∧ w.cell? ⟨W.heap.size, 1, none⟩ = some (.int .i64 c.d) ∧ w.cell? ⟨W.heap.size, 2, none⟩ = some (.int .i64 c.h) ∧ w.cell? ⟨W.heap.size, 3, none⟩ = some (.int .i64 c.l) ∧ w.cell? ⟨W.heap.size, 4, none⟩ = some (.int .i64 c.c) ∧ w.cell? ⟨W.heap.size, 5, none⟩ = some (.int .i64 c.x) ∧ w.cell? ⟨W.heap.size, 6, none⟩ = some (.int .i64 P) ∧ w.cell? ⟨W.heap.size, 7, none⟩ = some (.int .i64 limit) ∧ w.cell? ⟨W.heap.size, 8, none⟩ = some (.int .i64 K) := fun w hb => by
    have k1 := (hb.block _ (Array.getElem?_eq_some_iff.1 hpl).1).trans hpl
    refine ⟨?_, ?_, ?_, ?_, ?_, ?_, ?_, ?_, ?_⟩ <;> (rw [cell_of_row _ _ _ _ _ _ k1]; rfl)
  obtain ⟨c0, c1, c2, c3, c4, c5, c6, c7, c8⟩ := hfr w2 (Below.refl _ _)
  subst h1
  have j2 : (0 : Int) ≤ c.c + 1 := by omega
  have j4 : (0 : Int) ≤ c.c := by omega
  have hM : c.c + 1 = (pr : Int) := by omega
  have hpb : pr ≤ 65 := by omega
  obtain ⟨Z, hZ⟩ : ∃ Z : List Value, Z = intsV (List.replicate pr 0) := ⟨_, rfl⟩
  have hmk : ∀ w : World, (Instr.makeSlice 26 (.int .i64 (c.c + 1)) (.int .i64 (c.c + 1))).run Try.prog w = .ok (.slice (some ⟨w.heap.size, 0, none⟩) pr pr) (w.alloc (.cells Z.toArray 3)) := fun w => by
    obtain ⟨i0, hi, hz0, hz1, hz2, -, -⟩ := infoI
    have := run_make (P := Try.prog) w 26 3 i0 _ Try.underlying26 hi hz0 .i64 .i64 (pr : Int) (pr : Int) (by omega) (by omega) (by rw [hz2]; omega) (by omega)
    rw [hz1] at this
    have e : (madeCells (Value.int .i64 0).cells (pr * 1)) = Z.toArray := by
      apply Array.ext'
      rw [show (Value.int .i64 0).cells = #[.int .i64 0] from rfl, toList_madeCells_one, hZ]
      simp [intsV]
    simp only [Int.toNat_natCast] at this
    rw [e] at this
    rw [hM]
    exact this
  have hmc := fun w (hb : Below w2.heap.size w2 w) => mcheck_any (w.alloc (.cells Z.toArray 3)) c [.slice (some ⟨w.heap.size, 0, none⟩) pr pr, .int .u8 0, .int .u8 0, .int .u8 0, .int .u8 0, .int .u8 0, .int .u8 0, .int .u8 0, .int .u8 0, .int .u8 0, .int .u8 0, .int .u8 0, .int .u8 0, .int .u8 0, .int .u8 0, .int .u8 0, .int .u8 0, .int .u8 0, .int .u8 0, .int .u8 0, .int .u8 0, .int .u8 0, .int .u8 0, .int .u8 0, .int .u8 0, .int .u8 0, .int .u8 0, .int .u8 0, .int .u8 0, .int .u8 0, .int .u8 0, .int .u8 0, .int .u8 0, .int .i64 K, .int .i64 limit, .slice none 0 0] (.slice (some ⟨w.heap.size, 0, none⟩) pr pr) (List.replicate pr 0) (ints_block (by rw [← hZ]; exact heap_alloc_new w _) pr (by simp) (by simp; omega)) (by simp; omega) K limit rfl rfl rfl
  obtain ⟨E, hE⟩ : ∃ E, E = modelErr c (List.replicate pr 0) limit K := ⟨_, rfl⟩
  rw [← hE] at hmc ⊢
  have HW := Lib.hid hw2
  have HC := Lib.hid (And.intro hb2 (And.intro hfr (And.intro hck hmc)))
  clear hw2 hb2 hfr hck hpl h0 hZ hmc hE hpr hM hpb
  go_enter Try.func24, Try.ntmps24
  go_upto_region 1 with fail
  rw [← HW.out]
  go_upto_region 5 with (go_at_call 58; (with_reducible refine Calls.mono HC.out.2.2.1 ?_); rintro e w3 ⟨rfl, hb3⟩; obtain ⟨d0, d1, d2, d3, d4, d5, d6, d7, d8⟩ := HC.out.2.1 w3 hb3; have HB := Lib.hid hb3; clear hb3 c0 c1 c2 c3 c4 c5 c6 c7 c8)
  have hmc := HC.out.2.2.2 w3 HB.out
  have hb34 : Below w3.heap.size w3 (w3.alloc (.cells Z.toArray 3)) := (Below.refl _ w3).alloc (Nat.le_refl _) _
  obtain ⟨w4, hw4⟩ : ∃ w4, w4 = w3.alloc (.cells Z.toArray 3) := ⟨_, rfl⟩
  rw [← hw4] at hmc hb34 ⊢
  obtain ⟨f0, f1, f2, f3, f4, f5, f6, f7, f8⟩ := HC.out.2.1 w4 (below_chain HB.out hb34)
  have H4 := Lib.hid (And.intro hmc hb34)
  clear hmc hb34 hw4 hmk d0 d1 d2 d3 d4 d5 d6 d7 d8
  go_wp2_with (go_at_call 75; (with_reducible refine Calls.mono H4.out.1 ?_); rintro e w5 ⟨rfl, hb5⟩; have H5 := Lib.hid hb5; clear hb5)
  go_ret
  exact ⟨rfl, below_chain HC.out.1 (below_chain HB.out (below_chain H4.out.2 H5.out))⟩
set_option maxRecDepth 100000 in
set_option maxHeartbeats 4000000 in
theorem pcheck_high (W : World) (c : C6) (P limit K : Int) (h0 : c.chk = 0) (h1 : c.c + 1 < P) :
    Calls Try.prog 24 #[.agg #[.int .i64 c.v, .int .i64 c.d, .int .i64 c.h, .int .i64 c.l, .int .i64 c.c, .int .i64 c.x, .int .i64 P, .int .i64 limit, .int .i64 K]] W fun e w' => e = .returned (.int .i64 (modelErr c (List.replicate ((c.c + 1).toNat) 0) limit K)) ∧ Below W.heap.size W w' := by
  obtain ⟨-, -, -, -, ⟨g4, g5⟩, -⟩ := bounds_of h0
  obtain ⟨pr, hpr⟩ : ∃ pr : Nat, pr = (c.c + 1).toNat := ⟨_, rfl⟩
  rw [← hpr]
  obtain ⟨w2, hw2⟩ : ∃ w2, w2 = W.alloc (.cells #[.int .i64 c.v, .int .i64 c.d, .int .i64 c.h, .int .i64 c.l, .int .i64 c.c, .int .i64 c.x, .int .i64 P, .int .i64 limit, .int .i64 K] 62) := ⟨_, rfl⟩
  have hb2 : Below W.heap.size W w2 := by rw [hw2]; exact (Below.refl _ _).alloc (Nat.le_refl _) _
  have hpl : w2.heap[W.heap.size]? = some (.cells [Value.int .i64 c.v, .int .i64 c.d, .int .i64 c.h, .int .i64 c.l, .int .i64 c.c, .int .i64 c.x, .int .i64 P, .int .i64 limit, .int .i64 K].toArray 62 (0, 0)) := by rw [hw2]; exact heap_alloc_new W _
  have hck := check_any c w2
  rw [h0] at hck
  have hfr : ∀ w, Below w2.heap.size w2 w → w.cell? ⟨W.heap.size, 0, none⟩ = some (.int .i64 c.v) ∧ w.cell? ⟨W.heap.size, 1, none⟩ = some (.int .i64 c.d) ∧ w.cell? ⟨W.heap.size, 2, none⟩ = some (.int .i64 c.h) ∧ w.cell? ⟨W.heap.size, 3, none⟩ = some (.int .i64 c.l) ∧ w.cell? ⟨W.heap.size, 4, none⟩ = some (.int .i64 c.c) ∧ w.cell? ⟨W.heap.size, 5, none⟩ = some (.int .i64 c.x) ∧ w.cell? ⟨W.heap.size, 6, none⟩ = some (.int .i64 P) ∧ w.cell? ⟨W.heap.size, 7, none⟩ = some (.int .i64 limit) ∧ w.cell? ⟨W.heap.size, 8, none⟩ = some (.int .i64 K) := fun w hb => by
    have k1 := (hb.block _ (Array.getElem?_eq_some_iff.1 hpl).1).trans hpl
    refine ⟨?_, ?_, ?_, ?_, ?_, ?_, ?_, ?_, ?_⟩ <;> (rw [cell_of_row _ _ _ _ _ _ k1]; rfl)
  obtain ⟨c0, c1, c2, c3, c4, c5, c6, c7, c8⟩ := hfr w2 (Below.refl _ _)
  have j1 : c.c + 1 ≤ P := by omega
  have j3 : ¬ P ≤ c.c + 1 := by omega
  have j2 : (0 : Int) ≤ c.c + 1 := by omega
  have j4 : (0 : Int) ≤ c.c := by omega
  have hM : c.c + 1 = (pr : Int) := by omega
  have hpb : pr ≤ 65 := by omega
  obtain ⟨Z, hZ⟩ : ∃ Z : List Value, Z = intsV (List.replicate pr 0) := ⟨_, rfl⟩
  have hmk : ∀ w : World, (Instr.makeSlice 26 (.int .i64 (c.c + 1)) (.int .i64 (c.c + 1))).run Try.prog w = .ok (.slice (some ⟨w.heap.size, 0, none⟩) pr pr) (w.alloc (.cells Z.toArray 3)) := fun w => by
    obtain ⟨i0, hi, hz0, hz1, hz2, -, -⟩ := infoI
    have := run_make (P := Try.prog) w 26 3 i0 _ Try.underlying26 hi hz0 .i64 .i64 (pr : Int) (pr : Int) (by omega) (by omega) (by rw [hz2]; omega) (by omega)
    rw [hz1] at this
    have e : (madeCells (Value.int .i64 0).cells (pr * 1)) = Z.toArray := by
      apply Array.ext'
      rw [show (Value.int .i64 0).cells = #[.int .i64 0] from rfl, toList_madeCells_one, hZ]
      simp [intsV]
    simp only [Int.toNat_natCast] at this
    rw [e] at this
    rw [hM]
    exact this
  have hmc := fun w (hb : Below w2.heap.size w2 w) => mcheck_any (w.alloc (.cells Z.toArray 3)) c [.slice (some ⟨w.heap.size, 0, none⟩) pr pr, .int .u8 0, .int .u8 0, .int .u8 0, .int .u8 0, .int .u8 0, .int .u8 0, .int .u8 0, .int .u8 0, .int .u8 0, .int .u8 0, .int .u8 0, .int .u8 0, .int .u8 0, .int .u8 0, .int .u8 0, .int .u8 0, .int .u8 0, .int .u8 0, .int .u8 0, .int .u8 0, .int .u8 0, .int .u8 0, .int .u8 0, .int .u8 0, .int .u8 0, .int .u8 0, .int .u8 0, .int .u8 0, .int .u8 0, .int .u8 0, .int .u8 0, .int .u8 0, .int .i64 K, .int .i64 limit, .slice none 0 0] (.slice (some ⟨w.heap.size, 0, none⟩) pr pr) (List.replicate pr 0) (ints_block (by rw [← hZ]; exact heap_alloc_new w _) pr (by simp) (by simp; omega)) (by simp; omega) K limit rfl rfl rfl
  obtain ⟨E, hE⟩ : ∃ E, E = modelErr c (List.replicate pr 0) limit K := ⟨_, rfl⟩
  rw [← hE] at hmc ⊢
  have HW := Lib.hid hw2
  have HC := Lib.hid (And.intro hb2 (And.intro hfr (And.intro hck hmc)))
  clear hw2 hb2 hfr hck hpl h0 hZ hmc hE hpr hM hpb
  go_enter Try.func24, Try.ntmps24
  go_upto_region 1 with fail
  rw [← HW.out]
  go_upto_region 5 with (go_at_call 58; (with_reducible refine Calls.mono HC.out.2.2.1 ?_); rintro e w3 ⟨rfl, hb3⟩; obtain ⟨d0, d1, d2, d3, d4, d5, d6, d7, d8⟩ := HC.out.2.1 w3 hb3; have HB := Lib.hid hb3; clear hb3 c0 c1 c2 c3 c4 c5 c6 c7 c8)
  have hmc := HC.out.2.2.2 w3 HB.out
  have hb34 : Below w3.heap.size w3 (w3.alloc (.cells Z.toArray 3)) := (Below.refl _ w3).alloc (Nat.le_refl _) _
  obtain ⟨w4, hw4⟩ : ∃ w4, w4 = w3.alloc (.cells Z.toArray 3) := ⟨_, rfl⟩
  rw [← hw4] at hmc hb34 ⊢
  obtain ⟨f0, f1, f2, f3, f4, f5, f6, f7, f8⟩ := HC.out.2.1 w4 (below_chain HB.out hb34)
  have H4 := Lib.hid (And.intro hmc hb34)
  clear hmc hb34 hw4 hmk d0 d1 d2 d3 d4 d5 d6 d7 d8
  go_wp2_with (go_at_call 75; (with_reducible refine Calls.mono H4.out.1 ?_); rintro e w5 ⟨rfl, hb5⟩; have H5 := Lib.hid hb5; clear hb5)
  go_ret
  exact ⟨rfl, below_chain HC.out.1 (below_chain HB.out (below_chain H4.out.2 H5.out))⟩
/-- Plan.Check of sizes that may be. -/
theorem pcheck_any (W : World) (c : C6) (P limit K : Int) (h0 : c.chk = 0) :
    Calls Try.prog 24 #[.agg #[.int .i64 c.v, .int .i64 c.d, .int .i64 c.h, .int .i64 c.l, .int .i64 c.c, .int .i64 c.x, .int .i64 P, .int .i64 limit, .int .i64 K]] W fun e w' => e = .returned (.int .i64 (planErr c P limit K)) ∧ Below W.heap.size W w' := by
  obtain ⟨-, -, -, -, ⟨g4, g5⟩, -⟩ := bounds_of h0
  by_cases h1 : P < 1
  · rw [← modelErr_plan h0 0 P limit K (.inl ⟨h1, rfl⟩)]
    by_cases h3 : P < 0
    · exact pcheck_low W c P limit K h0 h3
    · exact pcheck_zero W c P limit K h0 (by omega)
  · by_cases h2 : c.c < P
    · rw [← modelErr_plan h0 (c.c + 1).toNat P limit K (.inr (.inr ⟨h2, by omega⟩))]
      by_cases h3 : c.c + 1 = P
      · exact pcheck_high0 W c P limit K h0 h3
      · exact pcheck_high W c P limit K h0 (by omega)
    · obtain ⟨pr, rfl⟩ := Int.eq_ofNat_of_zero_le (show 0 ≤ P by omega)
      rw [← modelErr_plan h0 pr pr limit K (.inr (.inl ⟨by omega, by omega, rfl⟩))]
      exact pcheck_right W c pr limit K h0 ⟨by omega, by omega⟩
end Go.Proofs.Ytfhaebaegkpkhaa.Pln
