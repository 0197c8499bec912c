/- steps.Plan.Check, right, Places, of plans that may be; Many. · steps.Plan: right, Places, Many, of plans that may be; cupellaw12.awake. -/
import Derived.Test.YtfhaebaegkpkhaaPlG
import Derived.Test.YtfhaebaegkpkhaaPlE
set_option linter.unusedVariables false
set_option linter.unusedSimpArgs false
namespace Go.Proofs.Ytfhaebaegkpkhaa.Pln
open Go.RowKit OwnS Byt Cfg Stp
attribute [local go_sem ↓] Kit.execOp_call_slot
attribute [local go_sem] Kit.callSlot_func
set_option maxRecDepth 100000 in
set_option maxHeartbeats 4000000 in
theorem pcheck_right (W : World) (c : C6) (pr : Nat) (limit K : Int) (h0 : c.chk = 0) (h1 : 1 ≤ pr ∧ (pr : Int) ≤ c.c) :
    Calls Try.prog 24 #[.agg #[.int .i64 c.v, .int .i64 c.d, .int .i64 c.h, .int .i64 c.l, .int .i64 c.c, .int .i64 c.x, .int .i64 (pr : Int), .int .i64 limit, .int .i64 K]] W fun e w' => e = .returned (.int .i64 (modelErr c (List.replicate pr 0) limit K)) ∧ Below W.heap.size W w' := by
  obtain ⟨-, -, -, -, ⟨g4, g5⟩, -⟩ := bounds_of h0
  obtain ⟨w2, hw2⟩ : ∃ w2, w2 = W.alloc (.cells #[.int .i64 c.v, .int .i64 c.d, .int .i64 c.h, .int .i64 c.l, .int .i64 c.c, .int .i64 c.x, .int .i64 (pr : Int), .int .i64 limit, .int .i64 K] 62) := ⟨_, rfl⟩
  have hb2 : Below W.heap.size W w2 := by rw [hw2]; exact (Below.refl _ _).alloc (Nat.le_refl _) _
  have hpl : w2.heap[W.heap.size]? = some (.cells [Value.int .i64 c.v, .int .i64 c.d, .int .i64 c.h, .int .i64 c.l, .int .i64 c.c, .int .i64 c.x, .int .i64 (pr : Int), .int .i64 limit, .int .i64 K].toArray 62 (0, 0)) := by rw [hw2]; exact heap_alloc_new W _
  have hck := check_any c w2
  rw [h0] at hck
  have hfr : ∀ w, Below w2.heap.size w2 w → w.cell? ⟨W.heap.size, 0, none⟩ = some (.int .i64 c.v) ∧ w.cell? ⟨W.heap.size, 1, none⟩ = some (.int .i64 c.d) ∧ w.cell? ⟨W.heap.size, 2, none⟩ = some (.int .i64 c.h) ∧ w.cell? ⟨W.heap.size, 3, none⟩ = some (.int .i64 c.l) ∧ w.cell? ⟨W.heap.size, 4, none⟩ = some (.int .i64 c.c) ∧ w.cell? ⟨W.heap.size, 5, none⟩ = some (.int .i64 c.x) ∧ w.cell? ⟨W.heap.size, 6, none⟩ = some (.int .i64 (pr : Int)) ∧ w.cell? ⟨W.heap.size, 7, none⟩ = some (.int .i64 limit) ∧ w.cell? ⟨W.heap.size, 8, none⟩ = some (.int .i64 K) := fun w hb => by
    have k1 := (hb.block _ (Array.getElem?_eq_some_iff.1 hpl).1).trans hpl
    refine ⟨?_, ?_, ?_, ?_, ?_, ?_, ?_, ?_, ?_⟩ <;> (rw [cell_of_row _ _ _ _ _ _ k1]; rfl)
  obtain ⟨c0, c1, c2, c3, c4, c5, c6, c7, c8⟩ := hfr w2 (Below.refl _ _)
  have j1 : (1 : Int) ≤ (pr : Int) := by omega
  have j2 : (pr : Int) ≤ c.c := h1.2
  have j3 : ¬ pr = 0 := by omega
  have j4 : (pr : Int) ≤ c.c + 1 := by omega
  obtain ⟨Z, hZ⟩ : ∃ Z : List Value, Z = intsV (List.replicate pr 0) := ⟨_, rfl⟩
  have hmk : ∀ w : World, (Instr.makeSlice 26 (.int .i64 (pr : Int)) (.int .i64 (pr : Int))).run Try.prog w = .ok (.slice (some ⟨w.heap.size, 0, none⟩) pr pr) (w.alloc (.cells Z.toArray 3)) := fun w => by
    obtain ⟨i0, hi, hz0, hz1, hz2, -, -⟩ := infoI
    have := run_make (P := Try.prog) w 26 3 i0 _ Try.underlying26 hi hz0 .i64 .i64 (pr : Int) (pr : Int) (by omega) (by omega) (by rw [hz2]; omega) (by omega)
    rw [hz1] at this
    have e : (madeCells (Value.int .i64 0).cells (pr * 1)) = Z.toArray := by
      apply Array.ext'
      rw [show (Value.int .i64 0).cells = #[.int .i64 0] from rfl, toList_madeCells_one, hZ]
      simp [intsV]
    simp only [Int.toNat_natCast] at this
    rw [e] at this
    exact this
  have hmc := fun w (hb : Below w2.heap.size w2 w) => mcheck_any (w.alloc (.cells Z.toArray 3)) c [.slice (some ⟨w.heap.size, 0, none⟩) pr pr, .int .u8 0, .int .u8 0, .int .u8 0, .int .u8 0, .int .u8 0, .int .u8 0, .int .u8 0, .int .u8 0, .int .u8 0, .int .u8 0, .int .u8 0, .int .u8 0, .int .u8 0, .int .u8 0, .int .u8 0, .int .u8 0, .int .u8 0, .int .u8 0, .int .u8 0, .int .u8 0, .int .u8 0, .int .u8 0, .int .u8 0, .int .u8 0, .int .u8 0, .int .u8 0, .int .u8 0, .int .u8 0, .int .u8 0, .int .u8 0, .int .u8 0, .int .u8 0, .int .i64 K, .int .i64 limit, .slice none 0 0] (.slice (some ⟨w.heap.size, 0, none⟩) pr pr) (List.replicate pr 0) (ints_block (by rw [← hZ]; exact heap_alloc_new w _) pr (by simp) (by simp; omega)) (by simp; omega) K limit rfl rfl rfl
  obtain ⟨E, hE⟩ : ∃ E, E = modelErr c (List.replicate pr 0) limit K := ⟨_, rfl⟩
  rw [← hE] at hmc ⊢
  have HW := Lib.hid hw2
  have HC := Lib.hid (And.intro hb2 (And.intro hfr (And.intro hck hmc)))
  clear hw2 hb2 hfr hck hpl h0 h1 hZ hmc hE
  go_enter Try.func24, Try.ntmps24
  go_upto_region 1 with fail
  rw [← HW.out]
  go_upto_region 5 with (go_at_call 58; (with_reducible refine Calls.mono HC.out.2.2.1 ?_); rintro e w3 ⟨rfl, hb3⟩; obtain ⟨d0, d1, d2, d3, d4, d5, d6, d7, d8⟩ := HC.out.2.1 w3 hb3; have HB := Lib.hid hb3; clear hb3 c0 c1 c2 c3 c4 c5 c6 c7 c8)
  have hmc := HC.out.2.2.2 w3 HB.out
  have hb34 : Below w3.heap.size w3 (w3.alloc (.cells Z.toArray 3)) := (Below.refl _ w3).alloc (Nat.le_refl _) _
  obtain ⟨w4, hw4⟩ : ∃ w4, w4 = w3.alloc (.cells Z.toArray 3) := ⟨_, rfl⟩
  rw [← hw4] at hmc hb34 ⊢
  obtain ⟨f0, f1, f2, f3, f4, f5, f6, f7, f8⟩ := HC.out.2.1 w4 (below_chain HB.out hb34)
  have H4 := Lib.hid (And.intro hmc hb34)
  clear hmc hb34 hw4 hmk d0 d1 d2 d3 d4 d5 d6 d7 d8
  go_wp2_with (go_at_call 75; (with_reducible refine Calls.mono H4.out.1 ?_); rintro e w5 ⟨rfl, hb5⟩; have H5 := Lib.hid hb5; clear hb5)
  go_ret
  exact ⟨rfl, below_chain HC.out.1 (below_chain HB.out (below_chain H4.out.2 H5.out))⟩
end Go.Proofs.Ytfhaebaegkpkhaa.Pln
set_option linter.unusedVariables false
set_option linter.unusedSimpArgs false
namespace Go.Proofs.Ytfhaebaegkpkhaa.Pln
open Go.RowKit OwnS Byt Cfg Stp
attribute [local go_sem ↓] Kit.execOp_call_slot
attribute [local go_sem] Kit.callSlot_func
def c6P (p : Pln) (ctx : Int) : C6 := ⟨p.vocab, p.dim, p.heads, p.layers, ctx, p.hidden⟩
/-- A plan that may be. -/
def Okp (p : Pln) (ctx K : Int) : Prop := (c6P p ctx).chk = 0 ∧ (1 ≤ p.prompt ∧ (p.prompt : Int) ≤ ctx) ∧ modelErr (c6P p ctx) (List.replicate p.prompt 0) p.limit K = 0
theorem Okp.facts {p : Pln} {ctx K : Int} (h : Okp p ctx K) : (p.vocab ≤ 512 ∧ p.dim ≤ 64 ∧ p.heads ≤ 8 ∧ p.layers ≤ 4 ∧ p.hidden ≤ 64) ∧ 1 ≤ p.limit ∧ p.prompt + p.limit ≤ 64 := by
  obtain ⟨h1, h2, h3⟩ := h
  obtain ⟨b1, b2, b3, b4, b5, b6⟩ := bounds_of h1
  unfold modelErr at h3
  rw [if_neg (by simpa using h1)] at h3
  split at h3
  · cases h3
  · rename_i h4
    split at h3
    · cases h3
    · rename_i h5
      unfold c6P at *
      simp only [List.length_replicate] at *
      omega
theorem right_any (W : World) (p : Pln) (ctx K : Int) (h : Okp p ctx K) : Calls Try.prog 81 #[.agg (planC p ctx K).toArray] W fun e w' => e = .returned (.bool true) ∧ Below W.heap.size W w' := by
  have hck := fun w => pcheck_right w (c6P p ctx) p.prompt p.limit K h.1 h.2.1
  rw [h.2.2] at hck
  unfold c6P at hck
  simp only at hck
  have HC := Lib.hid hck
  clear hck
  unfold planC
  go_enter Try.func81, Try.ntmps81
  go_wp2_with (go_at_call 24; (with_reducible refine Calls.mono (HC.out _) ?_); rintro e w3 ⟨rfl, hb3⟩; have HB := Lib.hid hb3; clear hb3)
  go_ret
  exact ⟨rfl, ((Below.refl _ _).alloc (Nat.le_refl _) _).trans (HB.out.mono (by simp))⟩
theorem places_any (W : World) (p : Pln) (ctx K : Int) (h : Okp p ctx K) : Calls Try.prog 30 #[.agg (planC p ctx K).toArray] W fun e w' => e = .returned (.int .i64 (p.places : Int)) ∧ Below W.heap.size W w' := by
  have hr := fun w => right_any w p ctx K h
  obtain ⟨-, f1, f2⟩ := h.facts
  obtain ⟨g1, g2⟩ := h.2.1
  obtain ⟨w2, hw2⟩ : ∃ w2, w2 = W.alloc (.cells (planC p ctx K).toArray 62) := ⟨_, rfl⟩
  have hb2 : Below W.heap.size W w2 := by rw [hw2]; exact (Below.refl _ _).alloc (Nat.le_refl _) _
  have hpl : w2.heap[W.heap.size]? = some (.cells (planC p ctx K).toArray 62 (0, 0)) := by rw [hw2]; exact heap_alloc_new W _
  have hfr : ∀ w, Below w2.heap.size w2 w → w.cell? ⟨W.heap.size, 6, none⟩ = some (.int .i64 (p.prompt : Int)) ∧ w.cell? ⟨W.heap.size, 7, none⟩ = some (.int .i64 (p.limit : Int)) := fun w hb => by
    have k1 := (hb.block _ (Array.getElem?_eq_some_iff.1 hpl).1).trans hpl
    exact ⟨by rw [cell_of_row _ _ 6 _ _ _ k1]; rfl, by rw [cell_of_row _ _ 7 _ _ _ k1]; rfl⟩
  have hpp : (p.prompt : Int) + (p.limit : Int) - 1 = (p.places : Int) := by unfold Pln.places; omega
  have j1 : (p.prompt : Int) + (p.limit : Int) ≤ 64 := by omega
  have j2 : (1 : Int) ≤ (p.prompt : Int) := by omega
  have j3 : (1 : Int) ≤ (p.limit : Int) := by omega
  have HW := Lib.hid hw2
  have HC := Lib.hid (And.intro hb2 (And.intro hfr (And.intro hr (And.intro hpl hpp))))
  clear hw2 hb2 hfr hr hpl hpp h g1 g2
  go_enter Try.func30, Try.ntmps30
  go_upto_region 1 with fail
  rw [← HW.out]
  go_wp2_with (first | (refine wpList_load_mid rfl 62 (.tmp 1) rfl W.heap.size 0 rfl (planC p ctx K) _ (rangeAt_whole HC.out.2.2.2.1) Try.underlying62 rfl plan_size ?_; simp only [Act.put, List.setIfInBounds_toArray, List.set_cons_succ, List.set_cons_zero]) | (go_at_call 81; (with_reducible refine Calls.mono (HC.out.2.2.1 w2) ?_); rintro e w3 ⟨rfl, hb3⟩; obtain ⟨d6, d7⟩ := HC.out.2.1 w3 hb3; have HB := Lib.hid hb3; clear hb3))
  go_ret
  rw [HC.out.2.2.2.2]
  exact ⟨rfl, below_chain HC.out.1 HB.out⟩
theorem stepsTo_le (p : Pln) (h : p.vocab ≤ 512 ∧ p.dim ≤ 64 ∧ p.heads ≤ 8 ∧ p.layers ≤ 4 ∧ p.hidden ≤ 64) : ∀ n, n ≤ 64 → (stepsTo p n).length ≤ n * 10000
  | 0, _ => by simp [stepsTo]
  | n + 1, hn => by
    rw [stepsTo_succ, List.length_append, placeL_length]
    have h1 := stepsTo_le p h n (by omega)
    have h2 : p.heads * (n + 3) ≤ 8 * 67 := Nat.mul_le_mul h.2.2.1 (by omega)
    have h3 : p.layers * (5 * p.dim + 2 * p.hidden + p.heads * (n + 3) + 9) ≤ 4 * 1000 := Nat.mul_le_mul h.2.2.2.1 (by omega)
    split <;> omega
set_option maxRecDepth 100000 in
set_option maxHeartbeats 2000000 in
theorem many_any (W : World) (p : Pln) (ctx K : Int) (h : Okp p ctx K) : Calls Try.prog 25 #[.agg (planC p ctx K).toArray] W fun e w' => e = .returned (.int .i64 ((stepsL p).length : Int)) ∧ Below W.heap.size W w' := by
  have hp := fun w => places_any w p ctx K h
  obtain ⟨f0, f1, f2⟩ := h.facts
  obtain ⟨g1, g2⟩ := h.2.1
  have hpc := fun w (a : Nat) (ha : a ≤ 64) => place_any w p ctx K a (by omega) (by omega) (by omega) (by omega) (by omega) (by omega) (by omega)
  have hN : p.places ≤ 64 := by unfold Pln.places; omega
  obtain ⟨w2, hw2⟩ : ∃ w2, w2 = W.alloc (.cells (planC p ctx K).toArray 62) := ⟨_, rfl⟩
  have hb2 : Below W.heap.size W w2 := by rw [hw2]; exact (Below.refl _ _).alloc (Nat.le_refl _) _
  have hpl : w2.heap[W.heap.size]? = some (.cells (planC p ctx K).toArray 62 (0, 0)) := by rw [hw2]; exact heap_alloc_new W _
  obtain ⟨N, hNN⟩ : ∃ N, N = p.places := ⟨_, rfl⟩
  rw [← hNN] at hp hN
  have HW := Lib.hid hw2
  have HC := Lib.hid (And.intro hb2 (And.intro hp (And.intro hpl (And.intro hpc (And.intro f0 (And.intro hNN hN))))))
  clear hw2 hb2 hp hpl hpc h g1 g2 f0 f1 f2 hNN
  go_enter Try.func25, Try.ntmps25
  go_upto_region 1 with fail
  rw [← HW.out]
  go_wp2_with (first | (refine wpList_load_mid rfl 62 (.tmp 1) rfl W.heap.size 0 rfl (planC p ctx K) _ (rangeAt_whole HC.out.2.2.1) Try.underlying62 rfl plan_size ?_; simp only [Act.put, List.setIfInBounds_toArray, List.set_cons_succ, List.set_cons_zero]) | (go_at_call 30; (with_reducible refine Calls.mono (HC.out.2.1 w2) ?_); rintro e w3 ⟨rfl, hb3⟩; have HB := Lib.hid hb3; clear hb3))
  go_loopw [3, 7] (fun v3 v7 wr => ∃ i : Nat, i ≤ N ∧ v7 = .int .i64 i ∧ v3 = .int .i64 ((stepsTo p i).length : Int) ∧ Hid (Below w2.heap.size w2 wr)) (fun _ v7 _ => N - (intOf v7).toNat)
  case atStart => exact ⟨0, Nat.zero_le _, rfl, rfl, HB⟩
  case round =>
    obtain ⟨i, hi, rfl, rfl, hI⟩ := hrel
    by_cases hlt : i < N
    · have i1 : (i : Int) < (N : Int) := by omega
      have i2 : (i : Int) ≤ 64 := by omega
      have hple := HC.out.2.2.2.1 wr i (by omega)
      obtain ⟨m, hm⟩ : ∃ m, m = (Stp.placeL p i).length := ⟨_, rfl⟩
      obtain ⟨t, ht⟩ : ∃ t, t = (stepsTo p i).length := ⟨_, rfl⟩
      have hsum : (stepsTo p (i + 1)).length = t + m := by rw [stepsTo_succ, List.length_append, ht, hm]
      have hbd := stepsTo_le p HC.out.2.2.2.2.1 (i + 1) (by omega)
      have k1 : (t : Int) + (m : Int) ≤ 700000 := by omega
      have k2 : (0 : Int) ≤ (t : Int) := by omega
      unfold SlcPost at hple
      rw [← ht]
      rw [← hm] at hple
      have HP := Lib.hid (And.intro hple (And.intro hsum (rangeAt_whole ((hI.out.block _ (Array.getElem?_eq_some_iff.1 HC.out.2.2.1).1).trans HC.out.2.2.1))))
      clear hple hm hsum hbd
      go_wp2_with (first | (refine wpList_load_mid rfl 62 (.tmp 1) rfl W.heap.size 0 rfl (planC p ctx K) _ HP.out.2.2 Try.underlying62 rfl plan_size ?_; simp only [Act.put, List.setIfInBounds_toArray, List.set_cons_succ, List.set_cons_zero]) | (go_at_call 76; (with_reducible refine Calls.mono HP.out.1 ?_); rintro e w4 ⟨A4, q4, rfl, -, hb4⟩; have H4 := Lib.hid (below_chain hI.out hb4); clear hb4))
      go_roundw
      case rel => exact ⟨i + 1, by omega, by go_num, by rw [HP.out.2.1]; go_num, H4.out⟩
      case measure => simp [intOf]; omega
    · obtain rfl : N = i := by omega
      obtain ⟨t, ht⟩ : ∃ t, t = (stepsTo p N).length := ⟨_, rfl⟩
      rw [← ht]
      have HT := Lib.hid ht
      clear ht
      go_wp2_with fail
      go_ret
      refine ⟨?_, below_chain HC.out.1 hI.out⟩
      rw [show (stepsL p).length = t by rw [HT.out, HC.out.2.2.2.2.2.1]; rfl]
      rfl
theorem okp_example : Okp ⟨2, 1, 1, 2, 3, 1, 1⟩ 2 1 := by
  refine ⟨by decide, by decide, ?_⟩
  decide
set_option maxRecDepth 100000 in
theorem awake_any (W : World) : Calls Try.prog 20 #[] W fun e w' => e = .returned (.bool true) ∧ Below W.heap.size W w' := by
  have hm := fun w => many_any w ⟨2, 1, 1, 2, 3, 1, 1⟩ 2 1 okp_example
  rw [example32] at hm
  unfold planC at hm
  simp only at hm
  have HM := Lib.hid hm
  clear hm
  have hcf : ∀ w : World, Calls Try.prog 70 #[] w fun e w' => e = .returned (.agg #[.int .i64 3, .int .i64 2, .int .i64 1, .int .i64 1, .int .i64 2, .int .i64 2]) ∧ Below w.heap.size w w' := fun w => by
    go_enter Try.func70, Try.ntmps70
    go_wp2_with fail
    refine bodyPost_ret (v := .agg #[.int .i64 3, .int .i64 2, .int .i64 1, .int .i64 1, .int .i64 2, .int .i64 2]) (by simp [results, Try.f70, go_sem]) rfl ⟨rfl, (Below.refl _ _).alloc (Nat.le_refl _) _⟩
  have HC := Lib.hid hcf
  clear hcf
  go_enter Try.func20, Try.ntmps20
  go_wp2_with (first | (go_at_call 70; (with_reducible refine Calls.mono (HC.out _) ?_); rintro e w3 ⟨rfl, hb3⟩; have HB := Lib.hid hb3; clear hb3) | (go_at_call 25; (refine Calls.mono (HM.out _) ?_); rintro e w4 ⟨rfl, hb4⟩; have H4 := Lib.hid hb4; clear hb4))
  go_ret
  exact ⟨rfl, below_chain HB.out H4.out⟩
end Go.Proofs.Ytfhaebaegkpkhaa.Pln
