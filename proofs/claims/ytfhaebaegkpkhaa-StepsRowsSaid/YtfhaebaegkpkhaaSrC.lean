/- The law StepsRows. Printed by gensrl.py. -/
import Derived.Test.YtfhaebaegkpkhaaMdA
import Derived.Test.YtfhaebaegkpkhaaSRowA
import Derived.Test.YtfhaebaegkpkhaaPlI
import Derived.Test.YtfhaebaegkpkhaaInts2
import Derived.Test.YtfhaebaegkpkhaaSrV
set_option linter.unusedVariables false
set_option linter.unusedSimpArgs false
namespace Go.Proofs.Ytfhaebaegkpkhaa.Fil
open Go.RowKit OwnS Byt QTail Cfg Ten Bpe RevL
attribute [local go_sem ↓] Kit.execOp_call_slot
attribute [local go_sem] Kit.callSlot_func
set_option maxRecDepth 100000 in
set_option maxHeartbeats 16000000 in
theorem srl_c (W : World) (s0 s1 s2 s3 s4 s5 : Int) (A : Option Addr) (n c : Nat) (fill : List Int) (hf : Ints W (.slice A n c) fill) (hn : n = fill.length) (kd ly rr : Int) (hrow : -9223372036854775808 ≤ rr ∧ rr ≤ 9223372036854775807) (hkd : kd = 8 ∨ kd = 9) :
    Calls Try.prog 4 #[.agg #[.int .i64 s0, .int .i64 s1, .int .i64 s2, .int .i64 s3, .int .i64 s4, .int .i64 s5, .slice A n c], .agg #[.int .i64 kd, .int .i64 ly, .int .i64 rr]] W fun e w' => e = .returned (.bool true) ∧ Below W.heap.size W w' := by
  obtain ⟨w1, hw1⟩ : ∃ w1, w1 = (W.alloc (.cells #[.int .i64 s0, .int .i64 s1, .int .i64 s2, .int .i64 s3, .int .i64 s4, .int .i64 s5, .slice A n c] 49)).alloc (.cells #[.int .i64 kd, .int .i64 ly, .int .i64 rr] 33) := ⟨_, rfl⟩
  have hb1 : Below W.heap.size W w1 := by rw [hw1]; exact ((Below.refl _ _).alloc (Nat.le_refl _) _).alloc (by simp) _
  have hsp : w1.heap[W.heap.size]? = some (.cells [Value.int .i64 s0, .int .i64 s1, .int .i64 s2, .int .i64 s3, .int .i64 s4, .int .i64 s5, .slice A n c].toArray 49 (0, 0)) := by rw [hw1, Below.heap_alloc _ _ _ (by simp)]; exact heap_alloc_new W _
  have hpa : w1.heap[W.heap.size + 1]? = some (.cells [Value.int .i64 kd, .int .i64 ly, .int .i64 rr].toArray 33 (0, 0)) := by
    rw [hw1]
    have := heap_alloc_new (W.alloc (.cells #[.int .i64 s0, .int .i64 s1, .int .i64 s2, .int .i64 s3, .int .i64 s4, .int .i64 s5, .slice A n c] 49)) (.cells #[.int .i64 kd, .int .i64 ly, .int .i64 rr] 33)
    simpa using this
  have a0 : w1.cell? ⟨W.heap.size, 0, none⟩ = some (.int .i64 s0) := by rw [cell_of_row _ _ 0 _ _ _ hsp]; rfl
  have a1 : w1.cell? ⟨W.heap.size, 1, none⟩ = some (.int .i64 s1) := by rw [cell_of_row _ _ 1 _ _ _ hsp]; rfl
  have a2 : w1.cell? ⟨W.heap.size, 2, none⟩ = some (.int .i64 s2) := by rw [cell_of_row _ _ 2 _ _ _ hsp]; rfl
  have a3 : w1.cell? ⟨W.heap.size, 3, none⟩ = some (.int .i64 s3) := by rw [cell_of_row _ _ 3 _ _ _ hsp]; rfl
  have a4 : w1.cell? ⟨W.heap.size, 4, none⟩ = some (.int .i64 s4) := by rw [cell_of_row _ _ 4 _ _ _ hsp]; rfl
  have a5 : w1.cell? ⟨W.heap.size, 5, none⟩ = some (.int .i64 s5) := by rw [cell_of_row _ _ 5 _ _ _ hsp]; rfl
  have a6 : w1.cell? ⟨W.heap.size, 6, none⟩ = some (.slice A n c) := by rw [cell_of_row _ _ 6 _ _ _ hsp]; rfl
  have hmade := made_any w1 s0 s1 s2 s3 s4 s5 A n c fill (hf.new hb1) hn
  unfold specV at hmade
  have HW := Lib.hid hw1
  have HKD := Lib.hid hkd
  have HC := Lib.hid (And.intro hb1 (And.intro hmade (And.intro hpa hrow)))
  clear hkd hw1 hb1 hmade hpa hsp hf hn hrow
  go_enter Try.func4, Try.ntmps4
  go_upto_region 1 with fail
  rw [← HW.out]
  go_wp2_with fail
  with_reducible refine Calls.mono HC.out.2.1 ?_
  rintro e w3 ⟨L, b, rfl, hL, hone, -, hb3, hok⟩
  have HO := Lib.hid hok
  have HLL := Lib.hid (And.intro hL (And.intro hone hb3))
  clear hok a0 a1 a2 a3 a4 a5 a6 hL hone hb3
  go_upto_region 2 with (refine wpList_store_wts rfl (.tmp 5) (.tmp 16) rfl w3.heap.size rfl L rfl HLL.out.1 HLL.out.2.1 zeroL (heap_alloc_new w3 _) rfl ?_; simp only [Act.put, List.setIfInBounds_toArray, List.set_cons_succ, List.set_cons_zero])
  change Code.wp _ _ _ _ ((w3.alloc (.cells zeroL.toArray 31)).setRow w3.heap.size L.toArray)
  obtain ⟨w4, hw4⟩ : ∃ w4, w4 = (w3.alloc (.cells zeroL.toArray 31)).setRow w3.heap.size L.toArray := ⟨_, rfl⟩
  rw [← hw4]
  have hb34 : Below w3.heap.size w3 w4 := by rw [hw4]; exact below_setRow ((Below.refl _ _).alloc (Nat.le_refl _) _) _ _ (Nat.le_refl _)
  have hblk : w4.heap[w3.heap.size]? = some (.cells L.toArray 31 (0, 0)) := by rw [hw4]; exact setRow_heap _ _ _ _ _ _ (heap_alloc_new w3 _)
  obtain ⟨Bm, hBm⟩ : ∃ Bm, Bm = w3.heap.size := ⟨_, rfl⟩
  have hb14 := below_chain HLL.out.2.2 hb34
  have H4 := Lib.hid (And.intro hb34 (And.intro (by rw [hBm]; exact hblk : w4.heap[Bm]? = some (.cells L.toArray 31 (0, 0))) (And.intro hb14 (below_chain HC.out.1 hb14))))
  rw [← hBm]
  clear hw4 hb34 hblk hBm hb14
  cases b with
  | false =>
    as_aux_lemma =>
      go_wp2_with (go_at_call 20; (with_reducible refine Calls.mono (Pln.awake_any _) ?_); rintro e wA ⟨rfl, hbA⟩; have HAW := Lib.hid hbA; clear hbA)
      go_ret
      exact ⟨rfl, below_chain H4.out.2.2.2 HAW.out⟩
  | true =>
    obtain ⟨s, M, h, H, hs, hM, herr, hLe, hsee⟩ := HO.out rfl
    have hsr : SrAt W w4 Bm M h H ⟨kd, ly, rr⟩ := by
      have hpa4 := (H4.out.2.2.1.block _ (Array.getElem?_eq_some_iff.1 HC.out.2.2.1).1).trans HC.out.2.2.1
      refine ⟨H4.out.2.2.2, ⟨by rw [← hLe]; exact H4.out.2.1, hsee.new H4.out.1⟩, ?_, ?_, ?_⟩
      · rw [cell_of_row _ _ 0 _ _ _ hpa4]; rfl
      · rw [cell_of_row _ _ 1 _ _ _ hpa4]; rfl
      · rw [cell_of_row _ _ 2 _ _ _ hpa4]; rfl
    have hrow := HC.out.2.2.2
    have hal : 1 ≤ M.al.length ∧ M.al.length ≤ 512 := by rw [hM]; exact made_al hs
    have hnl : 1 ≤ M.ls.length ∧ M.ls.length ≤ 2 := by rw [hM, made_ls]; exact ⟨hs.2.2.2.2.1.1, hs.2.2.2.2.1.2⟩
    have hplc := fun w => place_any M.c ⟨kd, ly, rr⟩ w hrow
    simp only at hplc
    have HS := Lib.hid (And.intro hsr (And.intro hrow (And.intro hal (And.intro herr (And.intro hnl hplc)))))
    clear hsr hrow hal herr hnl hs hM hLe hsee hplc HO HLL H4 HC HW
    by_cases hp : (M.c.place ⟨kd, ly, rr⟩).2 = 0
    · skip
      obtain ⟨v1, hv1⟩ : ∃ v1, v1 = (M.c.place ⟨kd, ly, rr⟩).1 := ⟨_, rfl⟩
      have hpl := HS.out.2.2.2.2.2
      rw [hp, ← hv1] at hpl
      have hro := srow_some w4 M h H HS.out.1.wat.sees HS.out.2.2.1 HS.out.2.2.2.1 ⟨kd, ly, rr⟩ HS.out.2.1 hp
      have hcs := part_cases HS.out.2.2.2.1 hp
      unfold RowPost at hro
      simp only at hro hcs
      obtain ⟨LR, hLR⟩ : ∃ LR, LR = partRow M ⟨kd, ly, rr⟩ := ⟨_, rfl⟩
      rw [← hLR] at hro
      obtain ⟨nR, hnR⟩ : ∃ nR, nR = LR.length := ⟨_, rfl⟩
      rw [← hnR] at hro
      unfold partRow at hLR
      simp only at hLR
      have hnl := HS.out.2.2.2.2.1
      obtain ⟨a1, z1, a2, z2, a3, z3, a4, z4, a5, z5, a6, z6, hsh⟩ := shapes HS.out.1.wat.sees
      have hl0 := HS.out.1.wat.sees.layer (i := 0) (by omega)
      have q0 := HS.out.1.q0
      have q1 := HS.out.1.q1
      have q2 := HS.out.1.q2
      have hin : nR ≤ 1000000 → ∀ w vA vB, Sees w 1 vA nR (intsV LR) → Ints w vB LR → Calls Try.prog 23 #[vA, vB] w fun e w' => e = .returned (.bool true) ∧ Below w.heap.size w w' := fun hb w vA vB h1 h2 => (ints_any w vA vB LR LR (by unfold Ints; rw [← hnR]; exact h1) h2 (by omega)).mono fun e w' h => ⟨h.1.trans (by simp), h.2⟩
      have HRR := Lib.hid (And.intro hro (And.intro hpl (And.intro hin (And.intro hl0 (And.intro hsh hLR)))))
      clear hro hpl hin hl0 hsh hLR hv1 hp
      rcases hcs with ⟨hk, hly, hve⟩ | ⟨hk, hme, hr0, hr1⟩
      · rcases hk with rfl | rfl | rfl
        · exact absurd HKD.out (by decide)
        · exact absurd HKD.out (by decide)
        · exact absurd HKD.out (by decide)
      · rcases hk with rfl | rfl | ⟨hmk, hly⟩
        · exact absurd HKD.out (by decide)
        · exact absurd HKD.out (by decide)
        · have hmk' : kd = 3 ∨ kd = 4 ∨ kd = 5 ∨ kd = 6 ∨ kd = 8 ∨ kd = 9 ∨ kd = 10 := hmk
          clear hmk
          rcases hmk' with rfl | rfl | rfl | rfl | rfl | rfl | rfl
          · exact absurd HKD.out (by decide)
          · exact absurd HKD.out (by decide)
          · exact absurd HKD.out (by decide)
          · exact absurd HKD.out (by decide)
          · skip
            as_aux_lemma =>
              obtain ⟨hl1, hl2⟩ := hly
              obtain ⟨i, rfl⟩ := Int.eq_ofNat_of_zero_le hl1
              have hLR : LR = rowOf (M.lay (i : Int)).g.cols.toNat rr.toNat (M.lay (i : Int)).g.l := HRR.out.2.2.2.2.2
              replace hme : matErr (M.lay (i : Int)).g = 0 := hme
              replace hr1 : rr < (M.lay (i : Int)).g.rows := hr1
              obtain ⟨p, g, o, cap, -, hM, hls, hra, hse, -⟩ := HS.out.1.wat.sees.layer (i := i) (by omega)
              rw [hM] at hLR hme hr1
              obtain ⟨r, c, hr, hc, hmm⟩ := mat_nat hme
              obtain ⟨k, rfl⟩ := Int.eq_ofNat_of_zero_le hr0
              have hkr : k < r := by omega
              rw [hc, Int.toNat_natCast, Int.toNat_natCast] at hLR
              have hlr : LR.length = c := by
                obtain ⟨-, hcc, hll⟩ := matErr_facts hmm
                rw [hLR]
                unfold rowOf
                have h9 : (k + 1) * c ≤ r * c := Nat.mul_le_mul_right c hkr
                rw [Nat.add_mul] at h9
                rw [List.length_take, List.length_drop]
                omega
              have hnb : nR ≤ 1000000 := by rw [hnR, hlr]; have := (matErr_facts hmm).2.1; omega
              have HR := Lib.hid (And.intro HRR.out.1 (And.intro HRR.out.2.1 (And.intro (HRR.out.2.2.1 hnb) hLR)))
              have hsh := HRR.out.2.2.2.2.1
              rw [hsh] at hls
              simp only at hls
              injection hls with hls1 hls2 hls3
              subst hls1
              obtain ⟨n4, hn4⟩ : ∃ n4, n4 = M.ls.length := ⟨_, rfl⟩
              rw [← hn4] at hl2
              obtain ⟨An, cn, en⟩ := hse.g.form
              have hc1 : w4.cell? ⟨g, o + i * 23 + 14, none⟩ = some (.int .i64 p.1.g.rows) := hra 14 _ rfl
              have hc2 : w4.cell? ⟨g, o + i * 23 + 15, none⟩ = some (.int .i64 p.1.g.cols) := hra 15 _ rfl
              have hc3 : w4.cell? ⟨g, o + i * 23 + 16, none⟩ = some p.2.g := hra 16 _ rfl
              have hmr := fun w (hw : Below w4.heap.size w4 w) => Row_some w _ r c k p.1.g.l (hse.g.new hw) hmm hkr
              rw [hr] at hc1
              rw [hc] at hc2
              rw [en] at hc3 hmr
              obtain ⟨nN, hnN⟩ : ∃ nN, nN = p.1.g.l.length := ⟨_, rfl⟩
              rw [← hnN] at hc3 hmr
              have HX := Lib.hid (And.intro hsh (And.intro hn4 (And.intro hc1 (And.intro hc2 (And.intro hc3 (And.intro hmr hlr))))))
              have j1 : 1 ≤ (n4 : Int) := by omega
              have j2 : ¬ n4 = 0 := by omega
              clear hLR hnb HRR hsh hn4 hnR hls2 hls3 hnl hc1 hc2 hc3 hra hse hM en hl1 hnN hmr hlr hr hc hmm hme hr0 hr1 hkr
              by_cases hi0 : i = 0
              · subst hi0
                go_upto_region 29 with (first | (refine wpList_load_mid rfl 31 (.tmp 5) rfl Bm 0 rfl (modC M h) _ (rangeAt_whole HS.out.1.wat.blk) Try.underlying31 rfl wts_size ?_; simp only [Act.put, List.setIfInBounds_toArray, List.set_cons_succ, List.set_cons_zero]) | (go_at_call 21; (with_reducible refine Calls.mono HR.out.1 ?_); rintro e w5 ⟨A5, z5, rfl, ho5, hb5⟩; have hs5 := HS.out.1.new hb5; have g0 := hs5.q0; have g1 := hs5.q1; have g2 := hs5.q2; obtain ⟨k0, k1, k2, k3, k4, k5, -⟩ := rcells hs5.wat; have H5 := Lib.hid (And.intro hs5 (And.intro ho5.sees hb5)); clear hs5 ho5 hb5 q0 q1 q2) | (go_at_call 14; (with_reducible refine Calls.mono (HR.out.2.1 w5) ?_); rintro e w6 ⟨rfl, hb6⟩; have hs6 := H5.out.1.new hb6; have g0 := hs6.q0; have g1 := hs6.q1; have g2 := hs6.q2; obtain ⟨m0, m1, m2, m3, m4, m5, m6, m7, m8, m9, m10, m11, m12, m13, m14, m15⟩ := rcells hs6.wat; have hb46 := below_chain H5.out.2.2 hb6; (rw [HX.out.1] at m11); (simp only [← HX.out.2.1] at m11); have cc1 := (hb46.cell (block_lt_of_cell HX.out.2.2.1)).trans HX.out.2.2.1; have cc2 := (hb46.cell (block_lt_of_cell HX.out.2.2.2.1)).trans HX.out.2.2.2.1; have cc3 := (hb46.cell (block_lt_of_cell HX.out.2.2.2.2.1)).trans HX.out.2.2.2.2.1; (try simp only [Nat.zero_mul, Nat.add_zero] at cc1 cc2 cc3); have H6 := Lib.hid (And.intro hs6 (And.intro (H5.out.2.1.new hb6) hb46)); clear hs6 hb6 hb46 k0 k1 k2 k3 k4 k5))
                all_goals (try (exfalso; omega))
                have hd6 : Below w6.heap.size w6 w6.drew := ⟨rfl, rfl, rfl, Nat.le_refl _, fun _ _ => rfl⟩
                refine wp_region_plan (fun w' => Below w6.heap.size w6 w') (Plan.ofList [0, 1, 2, 3, 4, 5, 6, 7, 8, 9, 10] .nil) (by kernel_rfl) (by kernel_rfl) (by kernel_rfl) hd6 ?_
                intro I hNI FF hFF
                have G1 : ∀ j, (FF j).cell? _ = _ := fun j => ((hFF j).cell (block_lt_of_cell cc1)).trans cc1
                have G2 : ∀ j, (FF j).cell? _ = _ := fun j => ((hFF j).cell (block_lt_of_cell cc2)).trans cc2
                have G3 : ∀ j, (FF j).cell? _ = _ := fun j => ((hFF j).cell (block_lt_of_cell cc3)).trans cc3
                have G4 : ∀ j, (FF j).cell? _ = _ := fun j => ((hFF j).cell (block_lt_of_cell g2)).trans g2
                have HD := Lib.hid hd6
                clear hFF hd6 cc1 cc2 cc3 g0 g1 g2 m0 m1 m2 m3 m4 m5 m6 m7 m8 m9 m10 m11 m12 m13 m14 m15
                simp only [Plan.ofList, Plan.lay, List.getElem?_cons_succ, List.getElem?_cons_zero]
                iterate 6 (refine plan_take rfl ?_; go_big_quiet_step (fail); refine wpQuiet_nil ?_)
                refine plan_step rfl ?_
                go_wp2_with (go_at_call 22; (with_reducible refine Calls.mono (HX.out.2.2.2.2.2.1 _ (below_chain H6.out.2.2 HD.out)) ?_); rintro e w7 ⟨A7, z7, rfl, ho7, hl7, hb7⟩; have hb67 := below_chain HD.out hb7; have H7 := Lib.hid (And.intro hb67 (And.intro ho7.sees (H6.out.2.1.new hb67))); clear ho7 hl7 hb7 hb67)
                refine ⟨rfl, H7.out.1, ?_⟩
                iterate 4 (refine plan_take rfl ?_; go_big_quiet_step (fail); refine wpQuiet_nil ?_)
                refine plan_nil ?_
                go_wp2_with (first | (go_at_call 23; (with_reducible refine Calls.mono (HR.out.2.2.1 w7 _ _ H7.out.2.2 (by rw [HR.out.2.2.2]; unfold Ints; rw [← HR.out.2.2.2, HX.out.2.2.2.2.2.2, HR.out.2.2.2]; exact H7.out.2.1)) ?_); rintro e w8 ⟨rfl, hb8⟩; have H8 := Lib.hid hb8; clear hb8) | (go_at_call 20; (with_reducible refine Calls.mono (Pln.awake_any _) ?_); rintro e wA ⟨rfl, hbA⟩; have HAW := Lib.hid hbA; clear hbA))
                go_ret
                exact ⟨rfl, below_chain (below_chain (below_chain H6.out.1.below H7.out.1) H8.out) HAW.out⟩
              · have i1 : (0 : Int) < (i : Int) := by omega
                have i3 : (i : Int) < (n4 : Int) := by omega
                go_upto_region 29 with (first | (refine wpList_load_mid rfl 31 (.tmp 5) rfl Bm 0 rfl (modC M h) _ (rangeAt_whole HS.out.1.wat.blk) Try.underlying31 rfl wts_size ?_; simp only [Act.put, List.setIfInBounds_toArray, List.set_cons_succ, List.set_cons_zero]) | (go_at_call 21; (with_reducible refine Calls.mono HR.out.1 ?_); rintro e w5 ⟨A5, z5, rfl, ho5, hb5⟩; have hs5 := HS.out.1.new hb5; have g0 := hs5.q0; have g1 := hs5.q1; have g2 := hs5.q2; obtain ⟨k0, k1, k2, k3, k4, k5, -⟩ := rcells hs5.wat; have H5 := Lib.hid (And.intro hs5 (And.intro ho5.sees hb5)); clear hs5 ho5 hb5 q0 q1 q2) | (go_at_call 14; (with_reducible refine Calls.mono (HR.out.2.1 w5) ?_); rintro e w6 ⟨rfl, hb6⟩; have hs6 := H5.out.1.new hb6; have g0 := hs6.q0; have g1 := hs6.q1; have g2 := hs6.q2; obtain ⟨m0, m1, m2, m3, m4, m5, m6, m7, m8, m9, m10, m11, m12, m13, m14, m15⟩ := rcells hs6.wat; have hb46 := below_chain H5.out.2.2 hb6; (rw [HX.out.1] at m11); (simp only [← HX.out.2.1] at m11); have cc1 := (hb46.cell (block_lt_of_cell HX.out.2.2.1)).trans HX.out.2.2.1; have cc2 := (hb46.cell (block_lt_of_cell HX.out.2.2.2.1)).trans HX.out.2.2.2.1; have cc3 := (hb46.cell (block_lt_of_cell HX.out.2.2.2.2.1)).trans HX.out.2.2.2.2.1; (try simp only [Nat.zero_mul, Nat.add_zero] at cc1 cc2 cc3); have H6 := Lib.hid (And.intro hs6 (And.intro (H5.out.2.1.new hb6) hb46)); clear hs6 hb6 hb46 k0 k1 k2 k3 k4 k5))
                all_goals (try (exfalso; omega))
                have hd6 : Below w6.heap.size w6 w6.drew := ⟨rfl, rfl, rfl, Nat.le_refl _, fun _ _ => rfl⟩
                refine wp_region_plan (fun w' => Below w6.heap.size w6 w') (Plan.ofList [0, 1, 2, 3, 4, 5, 6, 7, 8, 9, 10] .nil) (by kernel_rfl) (by kernel_rfl) (by kernel_rfl) hd6 ?_
                intro I hNI FF hFF
                have G1 : ∀ j, (FF j).cell? _ = _ := fun j => ((hFF j).cell (block_lt_of_cell cc1)).trans cc1
                have G2 : ∀ j, (FF j).cell? _ = _ := fun j => ((hFF j).cell (block_lt_of_cell cc2)).trans cc2
                have G3 : ∀ j, (FF j).cell? _ = _ := fun j => ((hFF j).cell (block_lt_of_cell cc3)).trans cc3
                have G4 : ∀ j, (FF j).cell? _ = _ := fun j => ((hFF j).cell (block_lt_of_cell g2)).trans g2
                have HD := Lib.hid hd6
                clear hFF hd6 cc1 cc2 cc3 g0 g1 g2 m0 m1 m2 m3 m4 m5 m6 m7 m8 m9 m10 m11 m12 m13 m14 m15
                simp only [Plan.ofList, Plan.lay, List.getElem?_cons_succ, List.getElem?_cons_zero]
                iterate 6 (refine plan_take rfl ?_; go_big_quiet_step (fail); refine wpQuiet_nil ?_)
                refine plan_step rfl ?_
                go_wp2_with (go_at_call 22; (with_reducible refine Calls.mono (HX.out.2.2.2.2.2.1 _ (below_chain H6.out.2.2 HD.out)) ?_); rintro e w7 ⟨A7, z7, rfl, ho7, hl7, hb7⟩; have hb67 := below_chain HD.out hb7; have H7 := Lib.hid (And.intro hb67 (And.intro ho7.sees (H6.out.2.1.new hb67))); clear ho7 hl7 hb7 hb67)
                refine ⟨rfl, H7.out.1, ?_⟩
                iterate 4 (refine plan_take rfl ?_; go_big_quiet_step (fail); refine wpQuiet_nil ?_)
                refine plan_nil ?_
                go_wp2_with (first | (go_at_call 23; (with_reducible refine Calls.mono (HR.out.2.2.1 w7 _ _ H7.out.2.2 (by rw [HR.out.2.2.2]; unfold Ints; rw [← HR.out.2.2.2, HX.out.2.2.2.2.2.2, HR.out.2.2.2]; exact H7.out.2.1)) ?_); rintro e w8 ⟨rfl, hb8⟩; have H8 := Lib.hid hb8; clear hb8) | (go_at_call 20; (with_reducible refine Calls.mono (Pln.awake_any _) ?_); rintro e wA ⟨rfl, hbA⟩; have HAW := Lib.hid hbA; clear hbA))
                go_ret
                exact ⟨rfl, below_chain (below_chain (below_chain H6.out.1.below H7.out.1) H8.out) HAW.out⟩
          · skip
            as_aux_lemma =>
              obtain ⟨hl1, hl2⟩ := hly
              obtain ⟨i, rfl⟩ := Int.eq_ofNat_of_zero_le hl1
              have hLR : LR = rowOf (M.lay (i : Int)).u.cols.toNat rr.toNat (M.lay (i : Int)).u.l := HRR.out.2.2.2.2.2
              replace hme : matErr (M.lay (i : Int)).u = 0 := hme
              replace hr1 : rr < (M.lay (i : Int)).u.rows := hr1
              obtain ⟨p, g, o, cap, -, hM, hls, hra, hse, -⟩ := HS.out.1.wat.sees.layer (i := i) (by omega)
              rw [hM] at hLR hme hr1
              obtain ⟨r, c, hr, hc, hmm⟩ := mat_nat hme
              obtain ⟨k, rfl⟩ := Int.eq_ofNat_of_zero_le hr0
              have hkr : k < r := by omega
              rw [hc, Int.toNat_natCast, Int.toNat_natCast] at hLR
              have hlr : LR.length = c := by
                obtain ⟨-, hcc, hll⟩ := matErr_facts hmm
                rw [hLR]
                unfold rowOf
                have h9 : (k + 1) * c ≤ r * c := Nat.mul_le_mul_right c hkr
                rw [Nat.add_mul] at h9
                rw [List.length_take, List.length_drop]
                omega
              have hnb : nR ≤ 1000000 := by rw [hnR, hlr]; have := (matErr_facts hmm).2.1; omega
              have HR := Lib.hid (And.intro HRR.out.1 (And.intro HRR.out.2.1 (And.intro (HRR.out.2.2.1 hnb) hLR)))
              have hsh := HRR.out.2.2.2.2.1
              rw [hsh] at hls
              simp only at hls
              injection hls with hls1 hls2 hls3
              subst hls1
              obtain ⟨n4, hn4⟩ : ∃ n4, n4 = M.ls.length := ⟨_, rfl⟩
              rw [← hn4] at hl2
              obtain ⟨An, cn, en⟩ := hse.u.form
              have hc1 : w4.cell? ⟨g, o + i * 23 + 17, none⟩ = some (.int .i64 p.1.u.rows) := hra 17 _ rfl
              have hc2 : w4.cell? ⟨g, o + i * 23 + 18, none⟩ = some (.int .i64 p.1.u.cols) := hra 18 _ rfl
              have hc3 : w4.cell? ⟨g, o + i * 23 + 19, none⟩ = some p.2.u := hra 19 _ rfl
              have hmr := fun w (hw : Below w4.heap.size w4 w) => Row_some w _ r c k p.1.u.l (hse.u.new hw) hmm hkr
              rw [hr] at hc1
              rw [hc] at hc2
              rw [en] at hc3 hmr
              obtain ⟨nN, hnN⟩ : ∃ nN, nN = p.1.u.l.length := ⟨_, rfl⟩
              rw [← hnN] at hc3 hmr
              have HX := Lib.hid (And.intro hsh (And.intro hn4 (And.intro hc1 (And.intro hc2 (And.intro hc3 (And.intro hmr hlr))))))
              have j1 : 1 ≤ (n4 : Int) := by omega
              have j2 : ¬ n4 = 0 := by omega
              clear hLR hnb HRR hsh hn4 hnR hls2 hls3 hnl hc1 hc2 hc3 hra hse hM en hl1 hnN hmr hlr hr hc hmm hme hr0 hr1 hkr
              by_cases hi0 : i = 0
              · subst hi0
                go_upto_region 31 with (first | (refine wpList_load_mid rfl 31 (.tmp 5) rfl Bm 0 rfl (modC M h) _ (rangeAt_whole HS.out.1.wat.blk) Try.underlying31 rfl wts_size ?_; simp only [Act.put, List.setIfInBounds_toArray, List.set_cons_succ, List.set_cons_zero]) | (go_at_call 21; (with_reducible refine Calls.mono HR.out.1 ?_); rintro e w5 ⟨A5, z5, rfl, ho5, hb5⟩; have hs5 := HS.out.1.new hb5; have g0 := hs5.q0; have g1 := hs5.q1; have g2 := hs5.q2; obtain ⟨k0, k1, k2, k3, k4, k5, -⟩ := rcells hs5.wat; have H5 := Lib.hid (And.intro hs5 (And.intro ho5.sees hb5)); clear hs5 ho5 hb5 q0 q1 q2) | (go_at_call 14; (with_reducible refine Calls.mono (HR.out.2.1 w5) ?_); rintro e w6 ⟨rfl, hb6⟩; have hs6 := H5.out.1.new hb6; have g0 := hs6.q0; have g1 := hs6.q1; have g2 := hs6.q2; obtain ⟨m0, m1, m2, m3, m4, m5, m6, m7, m8, m9, m10, m11, m12, m13, m14, m15⟩ := rcells hs6.wat; have hb46 := below_chain H5.out.2.2 hb6; (rw [HX.out.1] at m11); (simp only [← HX.out.2.1] at m11); have cc1 := (hb46.cell (block_lt_of_cell HX.out.2.2.1)).trans HX.out.2.2.1; have cc2 := (hb46.cell (block_lt_of_cell HX.out.2.2.2.1)).trans HX.out.2.2.2.1; have cc3 := (hb46.cell (block_lt_of_cell HX.out.2.2.2.2.1)).trans HX.out.2.2.2.2.1; (try simp only [Nat.zero_mul, Nat.add_zero] at cc1 cc2 cc3); have H6 := Lib.hid (And.intro hs6 (And.intro (H5.out.2.1.new hb6) hb46)); clear hs6 hb6 hb46 k0 k1 k2 k3 k4 k5))
                all_goals (try (exfalso; omega))
                have hd6 : Below w6.heap.size w6 w6.drew := ⟨rfl, rfl, rfl, Nat.le_refl _, fun _ _ => rfl⟩
                refine wp_region_plan (fun w' => Below w6.heap.size w6 w') (Plan.ofList [0, 1, 2, 3, 4, 5, 6, 7, 8, 9, 10] .nil) (by kernel_rfl) (by kernel_rfl) (by kernel_rfl) hd6 ?_
                intro I hNI FF hFF
                have G1 : ∀ j, (FF j).cell? _ = _ := fun j => ((hFF j).cell (block_lt_of_cell cc1)).trans cc1
                have G2 : ∀ j, (FF j).cell? _ = _ := fun j => ((hFF j).cell (block_lt_of_cell cc2)).trans cc2
                have G3 : ∀ j, (FF j).cell? _ = _ := fun j => ((hFF j).cell (block_lt_of_cell cc3)).trans cc3
                have G4 : ∀ j, (FF j).cell? _ = _ := fun j => ((hFF j).cell (block_lt_of_cell g2)).trans g2
                have HD := Lib.hid hd6
                clear hFF hd6 cc1 cc2 cc3 g0 g1 g2 m0 m1 m2 m3 m4 m5 m6 m7 m8 m9 m10 m11 m12 m13 m14 m15
                simp only [Plan.ofList, Plan.lay, List.getElem?_cons_succ, List.getElem?_cons_zero]
                iterate 6 (refine plan_take rfl ?_; go_big_quiet_step (fail); refine wpQuiet_nil ?_)
                refine plan_step rfl ?_
                go_wp2_with (go_at_call 22; (with_reducible refine Calls.mono (HX.out.2.2.2.2.2.1 _ (below_chain H6.out.2.2 HD.out)) ?_); rintro e w7 ⟨A7, z7, rfl, ho7, hl7, hb7⟩; have hb67 := below_chain HD.out hb7; have H7 := Lib.hid (And.intro hb67 (And.intro ho7.sees (H6.out.2.1.new hb67))); clear ho7 hl7 hb7 hb67)
                refine ⟨rfl, H7.out.1, ?_⟩
                iterate 4 (refine plan_take rfl ?_; go_big_quiet_step (fail); refine wpQuiet_nil ?_)
                refine plan_nil ?_
                go_wp2_with (first | (go_at_call 23; (with_reducible refine Calls.mono (HR.out.2.2.1 w7 _ _ H7.out.2.2 (by rw [HR.out.2.2.2]; unfold Ints; rw [← HR.out.2.2.2, HX.out.2.2.2.2.2.2, HR.out.2.2.2]; exact H7.out.2.1)) ?_); rintro e w8 ⟨rfl, hb8⟩; have H8 := Lib.hid hb8; clear hb8) | (go_at_call 20; (with_reducible refine Calls.mono (Pln.awake_any _) ?_); rintro e wA ⟨rfl, hbA⟩; have HAW := Lib.hid hbA; clear hbA))
                go_ret
                exact ⟨rfl, below_chain (below_chain (below_chain H6.out.1.below H7.out.1) H8.out) HAW.out⟩
              · have i1 : (0 : Int) < (i : Int) := by omega
                have i3 : (i : Int) < (n4 : Int) := by omega
                go_upto_region 31 with (first | (refine wpList_load_mid rfl 31 (.tmp 5) rfl Bm 0 rfl (modC M h) _ (rangeAt_whole HS.out.1.wat.blk) Try.underlying31 rfl wts_size ?_; simp only [Act.put, List.setIfInBounds_toArray, List.set_cons_succ, List.set_cons_zero]) | (go_at_call 21; (with_reducible refine Calls.mono HR.out.1 ?_); rintro e w5 ⟨A5, z5, rfl, ho5, hb5⟩; have hs5 := HS.out.1.new hb5; have g0 := hs5.q0; have g1 := hs5.q1; have g2 := hs5.q2; obtain ⟨k0, k1, k2, k3, k4, k5, -⟩ := rcells hs5.wat; have H5 := Lib.hid (And.intro hs5 (And.intro ho5.sees hb5)); clear hs5 ho5 hb5 q0 q1 q2) | (go_at_call 14; (with_reducible refine Calls.mono (HR.out.2.1 w5) ?_); rintro e w6 ⟨rfl, hb6⟩; have hs6 := H5.out.1.new hb6; have g0 := hs6.q0; have g1 := hs6.q1; have g2 := hs6.q2; obtain ⟨m0, m1, m2, m3, m4, m5, m6, m7, m8, m9, m10, m11, m12, m13, m14, m15⟩ := rcells hs6.wat; have hb46 := below_chain H5.out.2.2 hb6; (rw [HX.out.1] at m11); (simp only [← HX.out.2.1] at m11); have cc1 := (hb46.cell (block_lt_of_cell HX.out.2.2.1)).trans HX.out.2.2.1; have cc2 := (hb46.cell (block_lt_of_cell HX.out.2.2.2.1)).trans HX.out.2.2.2.1; have cc3 := (hb46.cell (block_lt_of_cell HX.out.2.2.2.2.1)).trans HX.out.2.2.2.2.1; (try simp only [Nat.zero_mul, Nat.add_zero] at cc1 cc2 cc3); have H6 := Lib.hid (And.intro hs6 (And.intro (H5.out.2.1.new hb6) hb46)); clear hs6 hb6 hb46 k0 k1 k2 k3 k4 k5))
                all_goals (try (exfalso; omega))
                have hd6 : Below w6.heap.size w6 w6.drew := ⟨rfl, rfl, rfl, Nat.le_refl _, fun _ _ => rfl⟩
                refine wp_region_plan (fun w' => Below w6.heap.size w6 w') (Plan.ofList [0, 1, 2, 3, 4, 5, 6, 7, 8, 9, 10] .nil) (by kernel_rfl) (by kernel_rfl) (by kernel_rfl) hd6 ?_
                intro I hNI FF hFF
                have G1 : ∀ j, (FF j).cell? _ = _ := fun j => ((hFF j).cell (block_lt_of_cell cc1)).trans cc1
                have G2 : ∀ j, (FF j).cell? _ = _ := fun j => ((hFF j).cell (block_lt_of_cell cc2)).trans cc2
                have G3 : ∀ j, (FF j).cell? _ = _ := fun j => ((hFF j).cell (block_lt_of_cell cc3)).trans cc3
                have G4 : ∀ j, (FF j).cell? _ = _ := fun j => ((hFF j).cell (block_lt_of_cell g2)).trans g2
                have HD := Lib.hid hd6
                clear hFF hd6 cc1 cc2 cc3 g0 g1 g2 m0 m1 m2 m3 m4 m5 m6 m7 m8 m9 m10 m11 m12 m13 m14 m15
                simp only [Plan.ofList, Plan.lay, List.getElem?_cons_succ, List.getElem?_cons_zero]
                iterate 6 (refine plan_take rfl ?_; go_big_quiet_step (fail); refine wpQuiet_nil ?_)
                refine plan_step rfl ?_
                go_wp2_with (go_at_call 22; (with_reducible refine Calls.mono (HX.out.2.2.2.2.2.1 _ (below_chain H6.out.2.2 HD.out)) ?_); rintro e w7 ⟨A7, z7, rfl, ho7, hl7, hb7⟩; have hb67 := below_chain HD.out hb7; have H7 := Lib.hid (And.intro hb67 (And.intro ho7.sees (H6.out.2.1.new hb67))); clear ho7 hl7 hb7 hb67)
                refine ⟨rfl, H7.out.1, ?_⟩
                iterate 4 (refine plan_take rfl ?_; go_big_quiet_step (fail); refine wpQuiet_nil ?_)
                refine plan_nil ?_
                go_wp2_with (first | (go_at_call 23; (with_reducible refine Calls.mono (HR.out.2.2.1 w7 _ _ H7.out.2.2 (by rw [HR.out.2.2.2]; unfold Ints; rw [← HR.out.2.2.2, HX.out.2.2.2.2.2.2, HR.out.2.2.2]; exact H7.out.2.1)) ?_); rintro e w8 ⟨rfl, hb8⟩; have H8 := Lib.hid hb8; clear hb8) | (go_at_call 20; (with_reducible refine Calls.mono (Pln.awake_any _) ?_); rintro e wA ⟨rfl, hbA⟩; have HAW := Lib.hid hbA; clear hbA))
                go_ret
                exact ⟨rfl, below_chain (below_chain (below_chain H6.out.1.below H7.out.1) H8.out) HAW.out⟩
          · exact absurd HKD.out (by decide)
    · skip
      as_aux_lemma =>
        obtain ⟨e2, he2⟩ : ∃ e2, e2 = (M.c.place ⟨kd, ly, rr⟩).2 := ⟨_, rfl⟩
        obtain ⟨e1, he1⟩ : ∃ e1, e1 = (M.c.place ⟨kd, ly, rr⟩).1 := ⟨_, rfl⟩
        have hro := srow_none w4 M h H HS.out.1.wat.sees ⟨kd, ly, rr⟩ HS.out.2.1 hp
        simp only at hro
        have hpl := HS.out.2.2.2.2.2
        rw [← he1, ← he2] at hpl
        rw [← he2] at hp
        have hp2 : (e2 == 0) = false := by simpa using hp
        have q0 := HS.out.1.q0
        have q1 := HS.out.1.q1
        have q2 := HS.out.1.q2
        have HR := Lib.hid (And.intro hro hpl)
        clear hro hpl he1 he2
        go_wp2_with (first | (refine wpList_load_mid rfl 31 (.tmp 5) rfl Bm 0 rfl (modC M h) _ (rangeAt_whole HS.out.1.wat.blk) Try.underlying31 rfl wts_size ?_; simp only [Act.put, List.setIfInBounds_toArray, List.set_cons_succ, List.set_cons_zero]) | (go_at_call 21; (with_reducible refine Calls.mono HR.out.1 ?_); rintro e w5 ⟨rfl, hb5⟩; have hs5 := HS.out.1.new hb5; have g0 := hs5.q0; have g1 := hs5.q1; have g2 := hs5.q2; obtain ⟨k0, k1, k2, k3, k4, k5, -⟩ := rcells hs5.wat; have H5 := Lib.hid hs5; clear hs5 hb5 q0 q1 q2) | (go_at_call 14; (with_reducible refine Calls.mono (HR.out.2 w5) ?_); rintro e w6 ⟨rfl, hb6⟩; have H6 := Lib.hid (H5.out.new hb6); clear hb6 g0 g1 g2 k0 k1 k2 k3 k4 k5) | (go_at_call 20; (with_reducible refine Calls.mono (Pln.awake_any _) ?_); rintro e wA ⟨rfl, hbA⟩; have HAW := Lib.hid hbA; clear hbA))
        go_ret
        exact ⟨rfl, below_chain H6.out.below HAW.out⟩
end Go.Proofs.Ytfhaebaegkpkhaa.Fil
