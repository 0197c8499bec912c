/- The law StepsNone: its walk. -/
import Derived.Test.YtfhaebaegkpkhaaPnC
set_option linter.unusedVariables false
set_option linter.unusedSimpArgs false
namespace Go.Proofs.Ytfhaebaegkpkhaa.Pln
open Go.RowKit OwnS Byt QTail RevL Cfg Ten Bpe Stp Go.Shelf Fil
attribute [local go_sem] Oper.semAt_some
attribute [local go_sem ↓] Kit.execOp_call_slot
attribute [local go_sem] Kit.callSlot_func
set_option maxRecDepth 100000 in
set_option maxHeartbeats 16000000 in
theorem snl (W : World) (s0 s1 s2 s3 s4 s5 : Int) (A : Option Addr) (n c : Nat) (fill : List Int) (hf : Ints W (.slice A n c) fill) (hn : n = fill.length) (a b k : Int) :
    Calls Try.prog 5 #[.agg #[.int .i64 s0, .int .i64 s1, .int .i64 s2, .int .i64 s3, .int .i64 s4, .int .i64 s5, .slice A n c], .agg #[.int .i64 a, .int .i64 b, .int .i64 k]] W fun e w' => e = .returned (.bool true) ∧ Below W.heap.size W w' := by
  obtain ⟨w1, hw1⟩ : ∃ w1, w1 = ((W.alloc (.cells #[.int .i64 s0, .int .i64 s1, .int .i64 s2, .int .i64 s3, .int .i64 s4, .int .i64 s5, .slice A n c] 49)).alloc (.cells #[.int .i64 a, .int .i64 b, .int .i64 k] 60)).alloc (.cells #[.bool false] 4) := ⟨_, rfl⟩
  have hb1 : Below W.heap.size W w1 := by rw [hw1]; exact (((Below.refl _ _).alloc (Nat.le_refl _) _).alloc (by simp) _).alloc (by simp; omega) _
  have hz1 : w1.heap.size = W.heap.size + 3 := by rw [hw1]; simp
  have hsp : w1.heap[W.heap.size]? = some (.cells [Value.int .i64 s0, .int .i64 s1, .int .i64 s2, .int .i64 s3, .int .i64 s4, .int .i64 s5, .slice A n c].toArray 49 (0, 0)) := by rw [hw1, Below.heap_alloc _ _ _ (by simp; omega), Below.heap_alloc _ _ _ (by simp)]; exact heap_alloc_new W _
  have hpa : w1.heap[W.heap.size + 1]? = some (.cells [Value.int .i64 a, .int .i64 b, .int .i64 k].toArray 60 (0, 0)) := by
    rw [hw1, Below.heap_alloc _ _ _ (by simp)]
    have := heap_alloc_new (W.alloc (.cells #[.int .i64 s0, .int .i64 s1, .int .i64 s2, .int .i64 s3, .int .i64 s4, .int .i64 s5, .slice A n c] 49)) (.cells #[.int .i64 a, .int .i64 b, .int .i64 k] 60)
    simpa using this
  have hre : w1.heap[W.heap.size + 2]? = some (.cells [Value.bool false].toArray 4 (0, 0)) := by
    rw [hw1]
    have := heap_alloc_new ((W.alloc (.cells #[.int .i64 s0, .int .i64 s1, .int .i64 s2, .int .i64 s3, .int .i64 s4, .int .i64 s5, .slice A n c] 49)).alloc (.cells #[.int .i64 a, .int .i64 b, .int .i64 k] 60)) (.cells #[.bool false] 4)
    simpa using this
  have a0 : w1.cell? ⟨W.heap.size, 0, none⟩ = some (.int .i64 s0) := by rw [cell_of_row _ _ 0 _ _ _ hsp]; rfl
  have a1 : w1.cell? ⟨W.heap.size, 1, none⟩ = some (.int .i64 s1) := by rw [cell_of_row _ _ 1 _ _ _ hsp]; rfl
  have a2 : w1.cell? ⟨W.heap.size, 2, none⟩ = some (.int .i64 s2) := by rw [cell_of_row _ _ 2 _ _ _ hsp]; rfl
  have a3 : w1.cell? ⟨W.heap.size, 3, none⟩ = some (.int .i64 s3) := by rw [cell_of_row _ _ 3 _ _ _ hsp]; rfl
  have a4 : w1.cell? ⟨W.heap.size, 4, none⟩ = some (.int .i64 s4) := by rw [cell_of_row _ _ 4 _ _ _ hsp]; rfl
  have a5 : w1.cell? ⟨W.heap.size, 5, none⟩ = some (.int .i64 s5) := by rw [cell_of_row _ _ 5 _ _ _ hsp]; rfl
  have a6 : w1.cell? ⟨W.heap.size, 6, none⟩ = some (.slice A n c) := by rw [cell_of_row _ _ 6 _ _ _ hsp]; rfl
  have hmade := made_any w1 s0 s1 s2 s3 s4 s5 A n c fill (hf.new hb1) hn
  unfold specV at hmade
  have HW := Lib.hid hw1
  have HC := Lib.hid (And.intro hb1 (And.intro hmade (And.intro hpa (And.intro hre hz1))))
  clear hw1 hb1 hmade hpa hsp hf hn hre hz1
  refine (callsIn_wide (n := 9)).1 ?_
  refine callsIn_of_wp_marks Try.func5 rfl trivial ?_ rfl
  simp only [Try.ntmps5, List.size_toArray, List.length_cons, List.length_nil, Nat.reduceAdd, Nat.reduceSub, Array.replicate_succ, Array.replicate_zero, List.push_toArray, List.append_toArray, List.nil_append, List.cons_append]
  refine wpIn_wide.2 ?_
  go_upto_region 1 with fail
  rw [← HW.out]
  obtain ⟨R, hR⟩ : ∃ R, R = W.heap.size + 1 + 1 := ⟨_, rfl⟩
  rw [← hR]
  have HR := Lib.hid hR
  clear hR
  go_wp2_with fail
  with_reducible refine Calls.mono HC.out.2.1 ?_
  rintro e w3 ⟨L, bb, rfl, hL, hone, -, hb3, hok⟩
  have HO := Lib.hid hok
  have HLL := Lib.hid (And.intro hL (And.intro hone hb3))
  clear hok a0 a1 a2 a3 a4 a5 a6 hL hone hb3
  go_upto_region 2 with (refine wpList_store_wts rfl (.tmp 5) (.tmp 17) rfl w3.heap.size rfl L rfl HLL.out.1 HLL.out.2.1 zeroL (heap_alloc_new w3 _) rfl ?_; simp only [Act.put, List.setIfInBounds_toArray, List.set_cons_succ, List.set_cons_zero])
  change Code.wp _ _ _ _ ((w3.alloc (.cells zeroL.toArray 31)).setRow w3.heap.size L.toArray)
  obtain ⟨w4, hw4⟩ : ∃ w4, w4 = (w3.alloc (.cells zeroL.toArray 31)).setRow w3.heap.size L.toArray := ⟨_, rfl⟩
  rw [← hw4]
  have hb34 : Below w3.heap.size w3 w4 := by rw [hw4]; exact below_setRow ((Below.refl _ _).alloc (Nat.le_refl _) _) _ _ (Nat.le_refl _)
  have hblk : w4.heap[w3.heap.size]? = some (.cells L.toArray 31 (0, 0)) := by rw [hw4]; exact setRow_heap _ _ _ _ _ _ (heap_alloc_new w3 _)
  obtain ⟨Bm, hBm⟩ : ∃ Bm, Bm = w3.heap.size := ⟨_, rfl⟩
  have hb14 := below_chain HLL.out.2.2 hb34
  have hBm2 : w1.heap.size ≤ Bm := by rw [hBm]; exact HLL.out.2.2.size
  have H4 := Lib.hid (And.intro hb34 (And.intro (by rw [hBm]; exact hblk : w4.heap[Bm]? = some (.cells L.toArray 31 (0, 0))) (And.intro hb14 (And.intro (below_chain HC.out.1 hb14) hBm2))))
  rw [← hBm]
  clear hw4 hb34 hblk hBm hb14 hBm2
  have hre4 : w4.heap[R]? = some (.cells [Value.bool false].toArray 4 (0, 0)) := by rw [HR.out]; exact (H4.out.2.2.1.block _ (Array.getElem?_eq_some_iff.1 HC.out.2.2.2.1).1).trans HC.out.2.2.2.1
  have hfin : ∀ wA, Below w4.heap.size w4 wA → wA.cell? ⟨R, 0, none⟩ = some (.bool false) ∧ wA.frozen? ⟨R, 0, none⟩ = false ∧ (wA.setCell ⟨R, 0, none⟩ (.bool true)).cell? ⟨R, 0, none⟩ = some (.bool true) ∧ Below W.heap.size W (wA.setCell ⟨R, 0, none⟩ (.bool true)) := fun wA hb => by
    have hreA := (hb.block _ (Array.getElem?_eq_some_iff.1 hre4).1).trans hre4
    have cA : wA.cell? ⟨R, 0, none⟩ = some (.bool false) := by rw [cell_of_row _ _ 0 _ _ _ hreA]; rfl
    exact ⟨cA, frozen_of_row _ _ 0 _ _ hreA, World.cell?_setCell_same' _ _ _ (by rw [cA]; rfl), (below_chain H4.out.2.2.2.1 hb).setCell (p := ⟨R, 0, none⟩) (by have := HR.out; simp; omega) _⟩
  have HF := Lib.hid hfin
  clear hfin
  cases bb with
  | false =>
    as_aux_lemma =>
      have HRE := Lib.hid hre4
      clear hre4
      go_wp2_with (go_at_call 20; (with_reducible refine Calls.mono (Pln.awake_any _) ?_); rintro e wA ⟨rfl, hbA⟩; obtain ⟨cA, fA, gA, bA⟩ := HF.out wA hbA; have HAW := Lib.hid bA; clear hbA bA)
      exact ⟨.bool true, by simp [results, Try.f5, go_sem, gA], rfl, HAW.out⟩
  | true =>
    obtain ⟨s, M, h, H, hs, hM, herr, hLe, hsee⟩ := HO.out rfl
    have hwat : WAt w4 Bm M h H := ⟨by rw [← hLe]; exact H4.out.2.1, hsee.new H4.out.1⟩
    have hc0 : M.c.chk = 0 := by
      refine Classical.byContradiction fun h0 => ?_
      unfold Mod.err at herr
      rw [if_pos h0] at herr
      exact h0 herr
    obtain ⟨M0, hM0⟩ : ∃ M0, M0 = M.c := ⟨_, rfl⟩
    obtain ⟨m0, m1, m2, m3, m4, m5, -⟩ := rcells hwat
    rw [← hM0] at hc0 m0 m1 m2 m3 m4 m5
    have hpa4 := (H4.out.2.2.1.block _ (Array.getElem?_eq_some_iff.1 HC.out.2.2.1).1).trans HC.out.2.2.1
    have q0 : w4.cell? ⟨W.heap.size + 1, 0, none⟩ = some (.int .i64 a) := by rw [cell_of_row _ _ 0 _ _ _ hpa4]; rfl
    have q1 : w4.cell? ⟨W.heap.size + 1, 1, none⟩ = some (.int .i64 b) := by rw [cell_of_row _ _ 1 _ _ _ hpa4]; rfl
    have q2 : w4.cell? ⟨W.heap.size + 1, 2, none⟩ = some (.int .i64 k) := by rw [cell_of_row _ _ 2 _ _ _ hpa4]; rfl
    have HS := Lib.hid (And.intro hwat (And.intro hc0 (And.intro hM0 (And.intro hpa4 hre4))))
    clear hwat hc0 hM0 hpa4 hre4 hs hM herr hLe hsee HO
    go_upto_region 5 with fail
    obtain ⟨w5, hw5⟩ : ∃ w5, w5 = w4.alloc (.cells #[.int .i64 M0.v, .int .i64 M0.d, .int .i64 M0.h, .int .i64 M0.l, .int .i64 M0.c, .int .i64 M0.x, .int .i64 a, .int .i64 b, .int .i64 k] 62) := ⟨_, rfl⟩
    have hpl5 : w5.heap[w4.heap.size]? = some (.cells (planL M0 a b k).toArray 62 (0, 0)) := by rw [hw5]; exact heap_alloc_new w4 _
    have hb45 : Below w4.heap.size w4 w5 := by rw [hw5]; exact (Below.refl _ _).alloc (Nat.le_refl _) _
    have hs5 : w5.heap.size = w4.heap.size + 1 := by rw [hw5]; simp
    rw [← hw5]
    obtain ⟨PB, hPB⟩ : ∃ PB, PB = w4.heap.size := ⟨_, rfl⟩
    rw [← hPB] at hpl5 hs5 ⊢
    have hR5 : R < PB := by rw [hPB]; exact (Array.getElem?_eq_some_iff.1 HS.out.2.2.2.2).1
    have d0 := (hb45.cell (block_lt_of_cell m0)).trans m0
    have d4 := (hb45.cell (block_lt_of_cell m4)).trans m4
    have r0 := (hb45.cell (block_lt_of_cell q0)).trans q0
    have r1 := (hb45.cell (block_lt_of_cell q1)).trans q1
    have r2 := (hb45.cell (block_lt_of_cell q2)).trans q2
    have hck : ∀ w, Calls Try.prog 24 #[.agg (planL M0 a b k).toArray] w fun e w' => e = .returned (.int .i64 (planErr M0 a b k)) ∧ Below w.heap.size w w' := fun w => pcheck_any w M0 a b k HS.out.2.1
    have H5 := Lib.hid (And.intro hpl5 (And.intro hb45 (And.intro hs5 hR5)))
    clear hpl5 hb45 hs5 hR5 hw5 hPB m0 m1 m2 m3 m4 m5 q0 q1 q2
    by_cases hok : planErr M0 a b k = 0
    · obtain ⟨p, hp1, hp2⟩ := plan_of HS.out.2.1 hok
      have hmany := fun w => many_any w p M0.c k hp2
      rw [← hp1] at hmany
      obtain ⟨N, hN⟩ : ∃ N, N = (stepsL p).length := ⟨_, rfl⟩
      have hNp : 0 < N := by rw [hN]; exact size_pos p M0.c k hp2
      rw [← hN] at hmany
      rw [hok] at hck
      have hNi : (0 : Int) < (N : Int) := by omega
      unfold planErr at hok
      have g1 : 1 ≤ a := by
        refine Classical.byContradiction fun h => ?_
        rw [if_pos (.inl (by omega))] at hok; cases hok
      have g2 : 1 ≤ b := by
        refine Classical.byContradiction fun h => ?_
        rw [if_pos (.inr (by omega))] at hok; cases hok
      rw [if_neg (by omega)] at hok
      have g3 : a ≤ M0.c ∧ b ≤ M0.c - a := by
        refine Classical.byContradiction fun h => ?_
        rw [if_pos (by omega)] at hok; cases hok
      rw [if_neg (by omega)] at hok
      have g4 : 1 ≤ k ∧ k ≤ M0.v := by
        refine Classical.byContradiction fun h => ?_
        rw [if_pos (by omega)] at hok; cases hok
      obtain ⟨-, -, -, -, ⟨-, g5⟩, -⟩ := bounds_of HS.out.2.1
      have g6 : b ≤ M0.c := by omega
      have g7 : a + b ≤ M0.c := by omega
      obtain ⟨g8, g9⟩ := g3
      obtain ⟨g10, g11⟩ := g4
      have HM := Lib.hid (And.intro hmany hck)
      clear hmany hck hp1 hp2 hN hok g9
      as_aux_lemma =>
        go_wp2_with (first | (refine wpList_load_mid rfl 62 (.tmp 7) rfl PB 0 rfl (planL M0 a b k) _ (rangeAt_whole H5.out.1) Try.underlying62 rfl plan_size ?_; simp only [Act.put, List.setIfInBounds_toArray, List.set_cons_succ, List.set_cons_zero]) | (refine wpList_load_mid rfl 62 (.tmp 7) rfl PB 0 rfl (planL M0 a b k) _ (rangeAt_whole H6.out.1) Try.underlying62 rfl plan_size ?_; simp only [Act.put, List.setIfInBounds_toArray, List.set_cons_succ, List.set_cons_zero]) | (go_at_call 24; (with_reducible refine Calls.mono (HM.out.2 w5) ?_); rintro e w6 ⟨rfl, hb6⟩; have H6 := Lib.hid (And.intro ((hb6.block _ (Array.getElem?_eq_some_iff.1 H5.out.1).1).trans H5.out.1) (below_chain H5.out.2.1 hb6)); clear hb6) | (go_at_call 25; (with_reducible refine Calls.mono (HM.out.1 w6) ?_); rintro e w7 ⟨rfl, hb7⟩; have H7 := Lib.hid (below_chain H6.out.2 hb7); clear hb7) | (go_at_call 20; (with_reducible refine Calls.mono (Pln.awake_any _) ?_); rintro e wA ⟨rfl, hbA⟩; obtain ⟨cA, fA, gA, bA⟩ := HF.out wA (below_chain H7.out hbA); have HAW := Lib.hid bA; clear hbA bA))
        exact ⟨.bool true, by simp [results, Try.f5, go_sem, gA], rfl, HAW.out⟩
    · have hno : NoPlan M0 a b k := ⟨HS.out.2.1, hok⟩
      have hbe := fun w => begin_no w M0 a b k hno
      obtain ⟨E, hE⟩ : ∃ E, E = planErr M0 a b k := ⟨_, rfl⟩
      have hst := fun w => step0_no w M0 a b k hno
      have hmy := fun w => many_no w M0 a b k hno
      have hce := fun w => cells_no w M0 a b k hno
      have hpp := fun w => places_no w M0 a b k hno
      have hsz := fun w => size_no w M0 a b k hno
      rw [← hE] at hck hbe hok
      have hcs : (a < 1 ∧ E = 13) ∨ (¬ a < 1 ∧ b < 1 ∧ E = 13) ∨ (¬ a < 1 ∧ ¬ b < 1 ∧ M0.c < a ∧ E = 20) ∨ (¬ a < 1 ∧ ¬ b < 1 ∧ ¬ M0.c < a ∧ M0.c < b ∧ E = 20) ∨ (¬ a < 1 ∧ ¬ b < 1 ∧ ¬ M0.c < a ∧ ¬ M0.c < b ∧ M0.c < a + b ∧ E = 20) ∨ (¬ a < 1 ∧ ¬ b < 1 ∧ ¬ M0.c < a ∧ ¬ M0.c < b ∧ ¬ M0.c < a + b ∧ k < 1 ∧ E = 10) ∨ (¬ a < 1 ∧ ¬ b < 1 ∧ ¬ M0.c < a ∧ ¬ M0.c < b ∧ ¬ M0.c < a + b ∧ ¬ k < 1 ∧ M0.v < k ∧ E = 10) := by
        unfold planErr at hE
        by_cases e1 : a < 1
        · rw [if_pos (.inl e1)] at hE; exact .inl ⟨e1, hE⟩
        · by_cases e2 : b < 1
          · rw [if_pos (.inr e2)] at hE; exact .inr (.inl ⟨by omega, e2, hE⟩)
          · rw [if_neg (by omega)] at hE
            by_cases e3 : M0.c < a
            · rw [if_pos (.inl e3)] at hE; exact .inr (.inr (.inl ⟨by omega, by omega, e3, hE⟩))
            · by_cases e4 : M0.c - a < b
              · rw [if_pos (.inr e4)] at hE
                by_cases e5 : M0.c < b
                · exact .inr (.inr (.inr (.inl ⟨by omega, by omega, by omega, e5, hE⟩)))
                · exact .inr (.inr (.inr (.inr (.inl ⟨by omega, by omega, by omega, by omega, by omega, hE⟩))))
              · rw [if_neg (by omega)] at hE
                by_cases e5 : k < 1
                · rw [if_pos (.inl e5)] at hE; exact .inr (.inr (.inr (.inr (.inr (.inl ⟨by omega, by omega, by omega, by omega, by omega, e5, hE⟩)))))
                · by_cases e6 : M0.v < k
                  · rw [if_pos (.inr e6)] at hE; exact .inr (.inr (.inr (.inr (.inr (.inr ⟨by omega, by omega, by omega, by omega, by omega, by omega, e6, hE⟩)))))
                  · rw [if_neg (by omega)] at hE; exact absurd hE hok
      obtain ⟨-, -, -, -, ⟨-, g5⟩, -⟩ := bounds_of HS.out.2.1
      have HM := Lib.hid (And.intro hno (And.intro hck (And.intro hbe (And.intro hst (And.intro hmy (And.intro hce (And.intro hpp hsz)))))))
      clear hno hck hbe hst hmy hce hpp hsz hE hok
      have hnn := fun w => seq_ne_nil w
      rcases hcs with ⟨g1, rfl⟩ | ⟨g1, g2, rfl⟩ | ⟨g1, g2, g3, rfl⟩ | ⟨g1, g2, g3, g4, rfl⟩ | ⟨g1, g2, g3, g4, g6, rfl⟩ | ⟨g1, g2, g3, g4, g6, g7, rfl⟩ | ⟨g1, g2, g3, g4, g6, g7, g8, rfl⟩
      all_goals
        as_aux_lemma =>
          go_upto_region 12 with fail
          clear g5 g1
          (try clear g2); (try clear g3); (try clear g4); (try clear g6); (try clear g7); (try clear g8)
          go_upto_region 19 with (first | (refine wpList_load_mid rfl 62 (.tmp 7) rfl PB 0 rfl (planL M0 a b k) _ (rangeAt_whole H5.out.1) Try.underlying62 rfl plan_size ?_; simp only [Act.put, List.setIfInBounds_toArray, List.set_cons_succ, List.set_cons_zero]) | (refine wpList_load_mid rfl 62 (.tmp 7) rfl PB 0 rfl (planL M0 a b k) _ (rangeAt_whole H6.out.1) Try.underlying62 rfl plan_size ?_; simp only [Act.put, List.setIfInBounds_toArray, List.set_cons_succ, List.set_cons_zero]) | (go_at_call 24; (with_reducible refine Calls.mono (HM.out.2.1 w5) ?_); rintro e w6 ⟨rfl, hb6⟩; have H6 := Lib.hid (And.intro ((hb6.block _ (Array.getElem?_eq_some_iff.1 H5.out.1).1).trans H5.out.1) (below_chain H5.out.2.1 hb6)); clear hb6) | (go_at_call 26; (with_reducible refine Calls.mono (steps_any w6 (planL M0 a b k)) ?_); rintro e w7 ⟨q, rfl, hq, hqp, hb7⟩; have H7 := Lib.hid (And.intro ((hb7.block _ (Array.getElem?_eq_some_iff.1 H6.out.1).1).trans H6.out.1) (And.intro (below_chain H6.out.2 hb7) hqp)); clear hb7 hq hqp))
          go_wp2_with fail
          refine (wpIn_wide (n := 9)).1 ?_
          refine wpIn_rangeFunc_ownH rfl (by omega) (gf := 77) (lb := #[.pointer (some ⟨q, 0, none⟩)]) rfl trivial (enters_of Try.func77 (by kernel_rfl) rfl) (seq_no 8 w7 q M0 a b k HM.out.1 H7.out.2.2) (fun _ _ => trivial) (fun _ _ _ _ _ _ _ _ => trivial) (Below.refl _ _) (fun _ => rfl)
            (fun _ Wr => Below w7.heap.size w7 Wr) (fun _ _ _ => False) (ownFrom_below (Nat.le_refl _) (Nat.le_refl _)) (fun _ _ _ _ _ hs _ _ => hs) (Below.refl _ _) (fun _ _ _ => True) (fun _ _ _ _ _ _ _ _ _ => trivial)
            ?assign ?body ?done ?stop
          case assign =>
            rintro l pre x Wr K hI hK
            unfold Stp.Stp.val
            gi_wp2
            exact hK _ _ (KeepsFrom.refl _ _) trivial hI trivial
          case body =>
            rintro l pre x a' Wr _ _ _ _ h
            exact absurd h (by omega)
          case stop =>
            rintro D cc pre Wr _ h
            exact h.elim
          case done =>
            rintro D ys Wr hD rfl hI hK
            have hst := HM.out.2.2.2.1 Wr
            have hplW := (hI.block _ (Array.getElem?_eq_some_iff.1 H7.out.1).1).trans H7.out.1
            have HD := Lib.hid (And.intro hI (And.intro hK (And.intro hplW hD)))
            clear hI hK hplW hD
            go_upto_region 22 with (first | (refine wpList_load_mid rfl 62 (.tmp 7) rfl PB 0 rfl (planL M0 a b k) _ (rangeAt_whole HD.out.2.2.1) Try.underlying62 rfl plan_size ?_; simp only [Act.put, List.setIfInBounds_toArray, List.set_cons_succ, List.set_cons_zero]) | (go_at_call 27; (with_reducible refine Calls.mono hst ?_); rintro e w8 ⟨rfl, hb8⟩; have H8 := Lib.hid hb8; clear hb8))
            obtain ⟨w9, hw9⟩ : ∃ w9, w9 = w8.alloc (.cells #[.int .i64 0, .int .i64 0, .int .i64 0, .int .i64 0, .int .i64 0] 69) := ⟨_, rfl⟩
            rw [← hw9]
            have hbW9 : Below Wr.heap.size Wr w9 := by rw [hw9]; exact H8.out.alloc H8.out.size _
            have hstp : w9.heap[w8.heap.size]? = some (.cells [Value.int .i64 0, .int .i64 0, .int .i64 0, .int .i64 0, .int .i64 0].toArray 69 (0, 0)) := by rw [hw9]; exact heap_alloc_new w8 _
            have hs9 : Wr.heap.size ≤ w8.heap.size := H8.out.size
            have H9 := Lib.hid (And.intro ((hbW9.block _ (Array.getElem?_eq_some_iff.1 HD.out.2.2.1).1).trans HD.out.2.2.1) (And.intro hbW9 (And.intro hstp hs9)))
            clear hbW9 hstp hs9 hw9 hst
            obtain ⟨SB, hSB⟩ : ∃ SB, SB = w8.heap.size := ⟨_, rfl⟩
            rw [← hSB] at H9 ⊢
            clear hSB
            go_upto_region 23 with (first | (refine wpList_load_mid rfl 62 (.tmp 7) rfl PB 0 rfl (planL M0 a b k) _ (rangeAt_whole H9.out.1) Try.underlying62 rfl plan_size ?_; simp only [Act.put, List.setIfInBounds_toArray, List.set_cons_succ, List.set_cons_zero]) | (go_at_call 28; (with_reducible refine Calls.mono (HM.out.2.2.1 _) ?_); rintro e w10 ⟨rfl, hb10⟩; have H10 := Lib.hid hb10; clear hb10))
            have hplX := (H10.out.block _ (Array.getElem?_eq_some_iff.1 H9.out.1).1).trans H9.out.1
            have hstX := (H10.out.block _ (Array.getElem?_eq_some_iff.1 H9.out.2.2.1).1).trans H9.out.2.2.1
            have hbWX := below_chain H9.out.2.1 H10.out
            have hPBR : PB ≠ R := by have := H5.out.2.2.2; omega
            have hRD : R < Wr.heap.size := by
              have h1 := H5.out.2.2.2
              have h2 := (Array.getElem?_eq_some_iff.1 HD.out.2.2.1).1
              omega
            have hSBR : SB ≠ R := by have := H9.out.2.2.2; omega
            refine wp_region_plan (fun w' => Keeps w10 w' (· = R)) (Plan.ofList [0, 2, 5, 8, 1, 3, 4, 6, 7, 9, 10, 11, 12, 13, 14, 15, 16, 17, 18, 19, 20, 21, 22, 23, 24, 25, 26, 27, 28, 29, 30, 31, 32, 33, 34] .nil) (by kernel_rfl) (by kernel_rfl) (by kernel_rfl) ((Keeps.refl _ _).drew) ?_
            intro I hNI FF hFF
            have G1 : ∀ j, (FF j).rangeAt PB 0 (planL M0 a b k) := fun j => rangeAt_whole (((hFF j).block PB (Array.getElem?_eq_some_iff.1 hplX).1 hPBR).trans hplX)
            have hgs : ∀ j, (FF j).heap[SB]? = some (.cells [Value.int .i64 0, .int .i64 0, .int .i64 0, .int .i64 0, .int .i64 0].toArray 69 (0, 0)) := fun j => ((hFF j).block SB (Array.getElem?_eq_some_iff.1 hstX).1 hSBR).trans hstX
            have e0 : ∀ j, (FF j).cell? ⟨SB, 0, none⟩ = some (.int .i64 0) := fun j => by rw [cell_of_row _ _ 0 _ _ _ (hgs j)]; rfl
            have e1 : ∀ j, (FF j).cell? ⟨SB, 1, none⟩ = some (.int .i64 0) := fun j => by rw [cell_of_row _ _ 1 _ _ _ (hgs j)]; rfl
            have e2 : ∀ j, (FF j).cell? ⟨SB, 2, none⟩ = some (.int .i64 0) := fun j => by rw [cell_of_row _ _ 2 _ _ _ (hgs j)]; rfl
            have e3 : ∀ j, (FF j).cell? ⟨SB, 3, none⟩ = some (.int .i64 0) := fun j => by rw [cell_of_row _ _ 3 _ _ _ (hgs j)]; rfl
            have e4 : ∀ j, (FF j).cell? ⟨SB, 4, none⟩ = some (.int .i64 0) := fun j => by rw [cell_of_row _ _ 4 _ _ _ (hgs j)]; rfl
            have HX := Lib.hid (And.intro G1 (And.intro hbWX hRD))
            clear hFF G1 hgs hplX hstX hbWX hRD
            simp only [Plan.ofList, Plan.lay, List.getElem?_cons_succ, List.getElem?_cons_zero]
            iterate 4 (refine plan_take rfl ?_; refine wpQuiet_load_mid rfl 62 (.tmp 7) rfl PB 0 rfl (planL M0 a b k) _ (by rintro _ ⟨j, rfl⟩; exact HX.out.1 j) Try.underlying62 rfl plan_size ?_; simp only [Act.put, List.setIfInBounds_toArray, List.set_cons_succ, List.set_cons_zero]; refine wpQuiet_nil ?_)
            refine plan_step rfl ?_
            go_wp2_with (go_at_call 25; (with_reducible refine Calls.mono (HM.out.2.2.2.2.1 _) ?_); rintro e w11 ⟨rfl, hb11⟩; have H11 := Lib.hid hb11; clear hb11)
            have k11 : Keeps w10 w11 (· = R) := ((Keeps.refl _ _).drew).trans (Keeps.new (S := fun _ => False) H11.out) (fun _ h => h.elim)
            refine ⟨rfl, k11, ?_⟩
            have HK11 := Lib.hid k11
            clear k11
            refine plan_step rfl ?_
            go_wp2_with (go_at_call 29; (with_reducible refine Calls.mono (HM.out.2.2.2.2.2.1 _) ?_); rintro e w12 ⟨rfl, hb12⟩; have H12 := Lib.hid hb12; clear hb12)
            have k12 : Keeps w10 w12 (· = R) := HK11.out.trans (Keeps.new (S := fun _ => False) H12.out) (fun _ h => h.elim)
            refine ⟨rfl, k12, ?_⟩
            have HK12 := Lib.hid k12
            clear k12
            iterate 1 (refine plan_take rfl ?_; go_big_quiet_step (fail); refine wpQuiet_nil ?_)
            refine plan_step rfl ?_
            go_wp2_with (go_at_call 30; (with_reducible refine Calls.mono (HM.out.2.2.2.2.2.2.1 _) ?_); rintro e w13 ⟨rfl, hb13⟩; have H13 := Lib.hid hb13; clear hb13)
            have k13 : Keeps w10 w13 (· = R) := HK12.out.trans (Keeps.new (S := fun _ => False) H13.out) (fun _ h => h.elim)
            refine ⟨rfl, k13, ?_⟩
            have HK13 := Lib.hid k13
            clear k13
            iterate 1 (refine plan_take rfl ?_; go_big_quiet_step (fail); refine wpQuiet_nil ?_)
            refine plan_step rfl ?_
            go_wp2_with (go_at_call 31; (with_reducible refine Calls.mono (HM.out.2.2.2.2.2.2.2 _) ?_); rintro e w14 ⟨rfl, hb14⟩; have H14 := Lib.hid hb14; clear hb14)
            have k14 : Keeps w10 w14 (· = R) := HK13.out.trans (Keeps.new (S := fun _ => False) H14.out) (fun _ h => h.elim)
            refine ⟨rfl, k14, ?_⟩
            have HK14 := Lib.hid k14
            clear k14
            iterate 13 (refine plan_take rfl ?_; go_big_quiet_step (fail); refine wpQuiet_nil ?_)
            refine plan_step rfl ?_
            go_wp2_with fail
            refine ⟨rfl, HK14.out, ?_⟩
            iterate 8 (refine plan_take rfl ?_; go_big_quiet_step (fail); refine wpQuiet_nil ?_)
            refine plan_step rfl ?_
            go_wp2_with (go_at_call 20; (with_reducible refine Calls.mono (Pln.awake_any _) ?_); rintro e w15 ⟨rfl, hb15⟩; have H15 := Lib.hid hb15; clear hb15)
            have k15 : Keeps w10 w15 (· = R) := HK14.out.trans (Keeps.new (S := fun _ => False) H15.out) (fun _ h => h.elim)
            refine ⟨rfl, k15, ?_⟩
            have HK15 := Lib.hid k15
            clear k15
            iterate 1 (refine plan_take rfl ?_; go_big_quiet_step (fail); refine wpQuiet_nil ?_)
            have hb15 : Below w10.heap.size w10 w15 := below_chain (below_chain (below_chain (below_chain ((show Below w10.heap.size w10 w10.drew from ⟨rfl, rfl, rfl, Nat.le_refl _, fun _ _ => rfl⟩).trans H11.out) H12.out) H13.out) H14.out) H15.out
            have hbW15 := below_chain HX.out.2.1 hb15
            obtain ⟨cA, fA, gA, bA⟩ := HF.out w15 (below_chain (below_chain H7.out.2.1 HD.out.1) hbW15)
            have hDlt : D < Wr.heap.size := (Array.getElem?_eq_some_iff.1 HD.out.2.1).1
            have hR7 : R < w7.heap.size := by
              have h1 := H5.out.2.2.2
              have h2 := (Array.getElem?_eq_some_iff.1 H7.out.1).1
              omega
            have hD7 := HD.out.2.2.2
            have hDs : (w15.setCell ⟨R, 0, none⟩ (.bool true)).heap[D]? = some (.deferred (some [])) := by
              rw [Below.heap_setCell _ _ _ _ (by simp only; omega)]
              exact (hbW15.block D hDlt).trans HD.out.2.1
            have HZ := Lib.hid (And.intro hDs (And.intro bA (And.intro gA (And.intro hR7 hD7))))
            clear hb15 hbW15 hDlt hDs bA gA hR7 hD7
            refine plan_step rfl ?_
            go_wp2_with fail
            refine ⟨rfl, HK15.out.setCell (.inl rfl) _, ?_⟩
            refine plan_nil ?_
            go_wp2_with fail
            refine ⟨by simp, .inl ⟨_, _, rfl, run_takeDeferred HZ.out.1, ?_⟩⟩
            have hbp := belowK_b (n₀ := w7.heap.size) (w := w7) (Nat.le_refl _) (w15.setCell ⟨R, 0, none⟩ (.bool true)) D _ (.deferred none) HZ.out.2.2.2.2 HZ.out.1 rfl rfl
            have gB := (hbp.cell (p := ⟨R, 0, none⟩) HZ.out.2.2.2.1).trans HZ.out.2.2.1
            exact ⟨.bool true, by simp [results, Try.f5, go_sem, gB], rfl, HZ.out.2.1.trans (hbp.mono (by have := H7.out.2.1.size; have := H4.out.2.2.2.1.size; omega))⟩
end Go.Proofs.Ytfhaebaegkpkhaa.Pln

