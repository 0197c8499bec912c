/- steps.place: a place's steps. Printed by genple.py. -/
import Derived.Test.YtfhaebaegkpkhaaPlD
set_option linter.unusedVariables false
set_option linter.unusedSimpArgs false
namespace Go.Proofs.Ytfhaebaegkpkhaa.Pln
open Go.RowKit OwnS Byt Cfg Stp Mono QTail
attribute [local go_sem ↓] Kit.execOp_call_slot
attribute [local go_sem] Kit.callSlot_func
theorem field_plan0 (w : World) (g : Nat) : (Instr.fieldAt 62 (.pointer (some ⟨g, 0, none⟩)) 0).run Try.prog w = .ok (.pointer (some ⟨g, 0, none⟩)) w := by
  simp [go_sem]
theorem field_cfg0 (w : World) (g : Nat) : (Instr.fieldAt 23 (.pointer (some ⟨g, 0, none⟩)) 0).run Try.prog w = .ok (.pointer (some ⟨g, 0, none⟩)) w := by
  simp [go_sem]
theorem plan_size : (Try.prog.info? 62).map (·.size) = some 9 := by kernel_rfl
theorem ints_block {w : World} {g : Nat} {ks : List Int} (h : w.heap[g]? = some (.cells (intsV ks).toArray 3 (0, 0))) (n : Nat) (hn : n = ks.length) (hm : ks.length ≤ 1000) : Ints w (.slice (some ⟨g, 0, none⟩) n n) ks := by
  subst hn
  exact (Owns.whole (base := 0) h (Nat.zero_le _) (by rw [intsV_length]; omega) (by unfold maxLen; omega)).sees
set_option maxRecDepth 100000 in
set_option maxHeartbeats 8000000 in
theorem place_any (W : World) (p : Pln) (ctx K : Int) (at_ : Nat) (hd : p.dim ≤ 1000) (hh : p.heads ≤ 100) (hx : p.hidden ≤ 1000) (hl : p.layers ≤ 10) (hv : p.vocab ≤ 1000) (hat : at_ ≤ 900) (hpr : p.prompt ≤ 1000) :
    Calls Try.prog 76 #[.agg (planC p ctx K).toArray, .int .i64 (at_ : Int)] W (SlcPost W (placeL p at_)) := by
  unfold planC
  go_enter Try.func76, Try.ntmps76
  go_upto_region 2 with fail
  obtain ⟨w3, hw3⟩ : ∃ w3, w3 = (W.alloc (.cells (planC p ctx K).toArray 62)).alloc (.cells (Stp.cells (⟨0, (at_ : Int), 0, 0, 0⟩ : Stp)).toArray 69) := ⟨_, rfl⟩
  change Code.wp _ _ _ _ ((W.alloc (.cells (planC p ctx K).toArray 62)).alloc (.cells (Stp.cells (⟨0, (at_ : Int), 0, 0, 0⟩ : Stp)).toArray 69))
  rw [← hw3]
  have hb3 : Below W.heap.size W w3 := by rw [hw3]; exact ((Below.refl _ _).alloc (Nat.le_refl _) _).alloc (by simp) _
  have hz3 : w3.heap.size = W.heap.size + 2 := by rw [hw3]; simp
  have hst : w3.heap[W.heap.size + 1]? = some (.cells (Stp.cells (⟨0, (at_ : Int), 0, 0, 0⟩ : Stp)).toArray 69 (0, 0)) := by
    rw [hw3]
    have := heap_alloc_new (W.alloc (.cells (planC p ctx K).toArray 62)) (.cells (Stp.cells (⟨0, (at_ : Int), 0, 0, 0⟩ : Stp)).toArray 69)
    simpa using this
  have hpl : w3.heap[W.heap.size]? = some (.cells (planC p ctx K).toArray 62 (0, 0)) := by
    rw [hw3, Below.heap_alloc _ _ _ (by simp)]
    exact heap_alloc_new W _
  clear hw3
  have hon := (ones_any (w3.alloc (.cells #[.int .i64 1] 3)) (⟨0, (at_ : Int), 0, 0, 0⟩ : Stp) (.slice (some ⟨w3.heap.size, 0, none⟩) 1 1) [1] (ints_block (heap_alloc_new w3 _) 1 rfl (by decide)) (by decide)).mono (fun e w' h => h.m (B := W.heap.size + 2) (by rw [World.size_alloc]; omega))
  unfold Stp.val at hon
  simp only at hon
  have c0 : w3.cell? ⟨W.heap.size + 1, 0, none⟩ = some (.int .i64 0) := by rw [cell_of_row _ _ 0 _ _ _ hst]; rfl
  have c1 : w3.cell? ⟨W.heap.size + 1, 1, none⟩ = some (.int .i64 (at_ : Int)) := by rw [cell_of_row _ _ 1 _ _ _ hst]; rfl
  have c2 : w3.cell? ⟨W.heap.size + 1, 2, none⟩ = some (.int .i64 0) := by rw [cell_of_row _ _ 2 _ _ _ hst]; rfl
  have c3 : w3.cell? ⟨W.heap.size + 1, 3, none⟩ = some (.int .i64 0) := by rw [cell_of_row _ _ 3 _ _ _ hst]; rfl
  have c4 : w3.cell? ⟨W.heap.size + 1, 4, none⟩ = some (.int .i64 0) := by rw [cell_of_row _ _ 4 _ _ _ hst]; rfl
  have H3 := Lib.hid (And.intro hb3 (And.intro hz3 (And.intro hst (And.intro hpl hon))))
  clear hb3 hst hpl hon hz3
  go_upto_region 3 with (go_at_call 108; (with_reducible refine Calls.mono H3.out.2.2.2.2 ?_); rintro e w4 ⟨v4, rfl, hv4, hb4⟩; have hb34 := ((Below.refl _ w3).alloc (Nat.le_refl _) (.cells #[.int .i64 1] 3)).trans (hb4.mono (by simp)); have H4 := Lib.hid (And.intro hv4 hb34); clear hv4 hb4 hb34 c0 c1 c2 c3 c4)
  obtain ⟨hs4, hb34⟩ := H4.out
  obtain ⟨A4, c4, rfl, ho4⟩ := hs4
  have hst4 := (hb34.block _ (by have := H3.out.2.1; omega)).trans H3.out.2.2.1
  have hpl4 := (hb34.block _ (by have := H3.out.2.1; omega)).trans H3.out.2.2.2.1
  have hbW4 := below_chain H3.out.1 hb34
  have hz4 : W.heap.size + 2 ≤ w4.heap.size := by have := H3.out.2.1; have := hb34.size; omega
  obtain ⟨n4, hn4⟩ : ∃ n4, n4 = (onesL (⟨0, (at_ : Int), 0, 0, 0⟩ : Stp) [1]).length := ⟨_, rfl⟩
  rw [← hn4] at ho4 H4 ⊢
  have H5 := Lib.hid (And.intro ho4 (And.intro hst4 (And.intro hpl4 (And.intro hbW4 (And.intro hz4 hn4)))))
  have d3 : w4.cell? ⟨W.heap.size, 3, none⟩ = some (.int .i64 (p.layers : Int)) := by rw [cell_of_row _ _ 3 _ _ _ hpl4]; rfl
  clear hb34 ho4 hst4 hpl4 hbW4 hz4 hn4 H4
  go_wp2_with fail
  go_loopw [6, 16] (fun v6 v16 wr => ∃ (i : Nat) (A : Option Addr) (c n : Nat), i ≤ p.layers ∧ v16 = .int .i64 i ∧ v6 = .slice A n c ∧ Hid (∃ L : List Stp, L = onesL (⟨0, (at_ : Int), 0, 0, 0⟩ : Stp) [1] ++ layersL p at_ i ∧ n = L.length ∧ Owns wr (W.heap.size + 2) 5 (.slice A n c) n (flatS L) ∧ wr.heap[W.heap.size + 1]? = some (.cells (Stp.cells (⟨0, (at_ : Int), 0, 0, 0⟩ : Stp)).toArray 69 (0, 0)) ∧ wr.heap[W.heap.size]? = some (.cells (planC p ctx K).toArray 62 (0, 0)) ∧ Below W.heap.size W wr ∧ W.heap.size + 2 ≤ wr.heap.size)) (fun _ v16 _ => p.layers - (intOf v16).toNat)
  case atStart => exact ⟨0, A4, c4, n4, Nat.zero_le _, rfl, rfl, onesL (⟨0, (at_ : Int), 0, 0, 0⟩ : Stp) [1], by simp [layersL], H5.out.2.2.2.2.2, H5.out.1, H5.out.2.1, H5.out.2.2.1, H5.out.2.2.2.1, H5.out.2.2.2.2.1⟩
  case round =>
    obtain ⟨i, A, c, n, hi, rfl, rfl, hI⟩ := hrel
    obtain ⟨cur, hcur, hn, ho, hst, hpl, hbW, hz⟩ := hI.out
    have hlen : cur.length ≤ 1200000 := by
      rw [hcur, List.length_append, layersL_length, onesL_length]
      have h1 : p.heads * (at_ + 3) ≤ 100 * 1000 := Nat.mul_le_mul hh (by omega)
      have h2 : i * (5 * p.dim + 2 * p.hidden + p.heads * (at_ + 3) + 9) ≤ 10 * 110000 := Nat.mul_le_mul (by omega) (by omega)
      simp only [List.length_cons, List.length_nil]
      omega
    by_cases hlt : i < p.layers
    · have i1 : (i : Int) < (p.layers : Int) := by omega
      have i2 : (i : Int) ≤ 10 := by omega
      have hly := (layer_any wr p ctx K at_ i hd hh hx hat).mono (fun e w' h => h.m (B := W.heap.size + 2) hz)
      obtain ⟨m, hm⟩ : ∃ m, m = (layerL p at_ i).length := ⟨_, rfl⟩
      have hm2 : m ≤ 110000 := by
        rw [hm, layerL_length]
        have h1 : p.heads * (at_ + 3) ≤ 100 * 1000 := Nat.mul_le_mul hh (by omega)
        omega
      have hn9 : n ≤ 1200000 := by omega
      have HI := Lib.hid (And.intro hcur (And.intro hn (And.intro ho (And.intro hst (And.intro hpl (And.intro hbW (And.intro hz (And.intro hly hm))))))))
      clear hcur hn ho hst hpl hbW hz hlen hI d3 hly hm
      go_wp2_with (first | (refine wpList_load_mid rfl 62 (.tmp 2) rfl W.heap.size 0 rfl (planC p ctx K) _ (rangeAt_whole HI.out.2.2.2.2.1) Try.underlying62 rfl plan_size ?_; simp only [Act.put, List.setIfInBounds_toArray, List.set_cons_succ, List.set_cons_zero]) | (go_at_call 109; (with_reducible refine Calls.mono HI.out.2.2.2.2.2.2.2.1 ?_); rintro e w6 ⟨v6, rfl, hv6, hb6⟩; obtain ⟨A6, c6, rfl, ho6⟩ := hv6; rw [← HI.out.2.2.2.2.2.2.2.2] at ho6 ⊢; have ho5 : Owns w6 (W.heap.size + 2) 5 (.slice A n c) n (flatS cur) := HI.out.2.2.1.same (fun b hb => hb6.block b (HI.out.2.2.1.lt b hb).2) hb6.size; have H6 := Lib.hid (And.intro ho6.sees (And.intro ho5 hb6)); clear ho6 ho5 hb6) | (at_builtin; refine wpList_append rfl (.tmp 19) (.tmp 23) 154 154 rfl (W.heap.size + 2) 69 _ 5 40 Try.underlying154 infoS _ n (flatS cur) rfl (by exact H6.out.2.1) _ m (flatS (layerL p at_ i)) rfl (by exact src_of_sees _ Try.underlying154 H6.out.1 (flatS_one _)) (by unfold maxLen; omega) (by omega) (Nat.le_trans HI.out.2.2.2.2.2.2.1 H6.out.2.2.size) ?_; intro A7 c7 w7 hown hg hbl; have hkk := fun k (hk : k < W.heap.size + 2) => hg.block k (Nat.lt_of_lt_of_le hk (Nat.le_trans HI.out.2.2.2.2.2.2.1 H6.out.2.2.size)) (fun e => by have := (H6.out.2.1.lt _ e.symm).1; omega); have H7 := Lib.hid (And.intro hown (And.intro hkk hg)); clear hown hkk hg hbl))
      go_roundw
      case rel =>
        obtain ⟨hcur, hn, ho, hst, hpl, hbW, hz, -, hm⟩ := HI.out
        have hb6 := H6.out.2.2
        refine ⟨i + 1, A7, c7, n + m, by omega, by go_num, rfl, cur ++ layerL p at_ i, ?_, ?_, ?_, ?_, ?_, ?_, ?_⟩
        · rw [hcur, layersL_succ, List.append_assoc]
        · rw [List.length_append, hn, hm]
        · rw [flatS_append]
          exact H7.out.1
        · exact (H7.out.2.1 _ (by omega)).trans ((hb6.block _ (by omega)).trans hst)
        · exact (H7.out.2.1 _ (by omega)).trans ((hb6.block _ (by omega)).trans hpl)
        · exact (below_chain hbW hb6).grown H7.out.2.2 (below_chain hbW hb6).size (fun k e => by have := (H6.out.2.1.lt k e).1; omega)
        · exact Nat.le_trans hz (Nat.le_trans hb6.size H7.out.2.2.size)
      case measure => simp [intOf]; omega
    · have hh9 : p.layers = i := by omega
      have i1 : ¬ (i : Int) < (p.layers : Int) := by omega
      have HI := Lib.hid (And.intro hcur (And.intro hn (And.intro ho (And.intro hst (And.intro hpl (And.intro hbW (And.intro hz (And.intro hlen hh9))))))))
      clear hcur hn ho hst hpl hbW hz hlen hI d3 hh9
      as_aux_lemma =>
        go_upto_region 8 with fail
        obtain ⟨hcur, hn, ho, hst, hpl, hbW, hz, hlen, hh9⟩ := HI.out
        have hs : ∀ w, Below wr.heap.size wr.drew w → w.heap[W.heap.size + 1]? = some (.cells (Stp.cells (⟨0, (at_ : Int), 0, 0, 0⟩ : Stp)).toArray 69 (0, 0)) := fun w hb => (hb.block _ (by omega)).trans hst
        have hc0 : ∀ w, Below wr.heap.size wr.drew w → w.cell? ⟨W.heap.size, 0, none⟩ = some (.int .i64 (p.vocab : Int)) := fun w hb => by rw [cell_of_row _ _ 0 _ _ _ ((hb.block _ (by omega)).trans hpl)]; rfl
        have hB : ∀ w, Below wr.heap.size wr.drew w → W.heap.size + 2 ≤ w.heap.size := fun w hb => by have := hb.size; have : wr.drew.heap.size = wr.heap.size := rfl; omega
        have hs9 : stepsP (W.heap.size + 2) cur wr (.slice A n c) := ⟨A, c, by rw [← hn], by rw [← hn]; exact ho⟩
        have h9 : ∀ w, Below wr.heap.size wr.drew w → stepsP (W.heap.size + 2) cur w (.slice A n c) := fun w hb => hs9.new ((drewB wr).trans hb)
        obtain ⟨L1, hL1⟩ : ∃ L1 : List Stp, L1 = [cur, onesL (⟨0, (at_ : Int), 0, 0, 0⟩ : Stp) [21], rowsL (⟨0, (at_ : Int), 0, 0, 0⟩ : Stp) 22 p.vocab].flatten := ⟨_, rfl⟩
        refine wp_region_mono [MPred.steps (W.heap.size + 2) cur,
            MPred.eq ((⟨0, (at_ : Int), 0, 0, 0⟩ : Stp)).val,
            MPred.ints [21],
            MPred.steps (W.heap.size + 2) (onesL (⟨0, (at_ : Int), 0, 0, 0⟩ : Stp) [21]),
            MPred.eq ((⟨0, (at_ : Int), 0, 0, 0⟩ : Stp)).val,
            MPred.eq (.pointer (some ⟨W.heap.size, 0, none⟩)),
            MPred.eq (.pointer (some ⟨W.heap.size, 0, none⟩)),
            MPred.eq (.int .i64 (p.vocab : Int)),
            MPred.steps (W.heap.size + 2) (rowsL (⟨0, (at_ : Int), 0, 0, 0⟩ : Stp) 22 (p.vocab)),
            MPred.sts [cur, onesL (⟨0, (at_ : Int), 0, 0, 0⟩ : Stp) [21], rowsL (⟨0, (at_ : Int), 0, 0, 0⟩ : Stp) 22 p.vocab],
            MPred.steps (W.heap.size + 2) ([cur, onesL (⟨0, (at_ : Int), 0, 0, 0⟩ : Stp) [21], rowsL (⟨0, (at_ : Int), 0, 0, 0⟩ : Stp) 22 p.vocab] : List (List Stp)).flatten,
            MPred.steps (W.heap.size + 2) L1] _ (by kernel_rfl) (by kernel_rfl) (fun us => by simp only [putAll, Act.put, List.setIfInBounds_toArray, List.set_cons_zero, List.set_cons_succ, Nat.reduceAdd]; rfl) ?_ ?_
        · exact (obls_cons (obl_move rfl (.inl rfl) fun us w hp => by
            have e := hp.2.2 11 (by kernel_rfl)
            show stepsP _ _ _ (us 11)
            rw [e]
            exact h9 w hp.1)
            (obls_cons (obl_load rfl rfl fun us w hp => ⟨⟨(W.heap.size + 1), 0, none⟩, _, rfl, load_step (hs w hp.1), rfl⟩)
            (obls_cons (obl_build rfl rfl fun us w hp => by
            obtain ⟨v, h1, h2⟩ := run_build_ints w [21] (by decide) (by decide) 1 rfl #[(0, .int .i64 21)] rfl
            exact ⟨#[(0, .int .i64 21)], v, _, by simp only [List.map_toArray, List.map_cons, List.map_nil]; rfl, h1, h2, (Below.refl _ _).alloc (Nat.le_refl _) _⟩)
            (obls_cons (obl_call rfl rfl Try.func108 rfl rfl fun us w hp => ⟨#[us 1, us 2], by simp only [List.map_toArray, List.map_cons, List.map_nil]; rfl, by
            rw [show us 1 = ((⟨0, (at_ : Int), 0, 0, 0⟩ : Stp)).val from hp.2.1 1 (by kernel_rfl)]
            exact (ones_any w (⟨0, (at_ : Int), 0, 0, 0⟩ : Stp) (us 2) [21] (hp.2.1 2 (by kernel_rfl)) (by decide)).mono fun e w' h => h.m (hB w hp.1)⟩)
            (obls_cons (obl_load rfl rfl fun us w hp => ⟨⟨(W.heap.size + 1), 0, none⟩, _, rfl, load_step (hs w hp.1), rfl⟩)
            (obls_cons (obl_field rfl rfl fun us w hp => ⟨_, field_plan0 w _, rfl⟩)
            (obls_cons (obl_field rfl rfl fun us w hp => ⟨_, by rw [show (_ : Value) = .pointer (some ⟨W.heap.size, 0, none⟩) from hp.2.1 5 (by kernel_rfl)]; exact field_cfg0 w _, rfl⟩)
            (obls_cons (obl_load rfl rfl fun us w hp => ⟨_, _, hp.2.1 6 (by kernel_rfl), load_int (hc0 w hp.1), rfl⟩)
            (obls_cons (obl_call rfl rfl Try.func111 rfl rfl fun us w hp => ⟨#[us 4, .int .i64 22, us 7], by simp only [List.map_toArray, List.map_cons, List.map_nil]; rfl, by
            rw [show us 4 = ((⟨0, (at_ : Int), 0, 0, 0⟩ : Stp)).val from hp.2.1 4 (by kernel_rfl), show us 7 = .int .i64 ((p.vocab : Nat) : Int) from hp.2.1 7 (by kernel_rfl)]
            exact (rows_any w (⟨0, (at_ : Int), 0, 0, 0⟩ : Stp) 22 (p.vocab) hv).mono fun e w' h => h.m (hB w hp.1)⟩)
            (obls_cons (obl_build rfl rfl fun us w hp => by
            obtain ⟨v, h1, h2⟩ := run_build_sts w (W.heap.size + 2) [cur, onesL (⟨0, (at_ : Int), 0, 0, 0⟩ : Stp) [21], rowsL (⟨0, (at_ : Int), 0, 0, 0⟩ : Stp) 22 p.vocab] [us 0, us 3, us 8] rfl (fun i v l hv hl => by
              match i with
              | 0 => exact Option.some.inj hv ▸ Option.some.inj hl ▸ hp.2.1 0 (by kernel_rfl)
              | 1 => exact Option.some.inj hv ▸ Option.some.inj hl ▸ hp.2.1 3 (by kernel_rfl)
              | 2 => exact Option.some.inj hv ▸ Option.some.inj hl ▸ hp.2.1 8 (by kernel_rfl)
              | n + 3 => simp at hv) (by simp) (by simp) 3 rfl #[(0, us 0), (1, us 3), (2, us 8)] rfl
            exact ⟨#[(0, us 0), (1, us 3), (2, us 8)], v, _, by simp only [List.map_toArray, List.map_cons, List.map_nil]; rfl, h1, h2, (Below.refl _ _).alloc (Nat.le_refl _) _⟩)
            (obls_cons (obl_call rfl rfl Try.func110 rfl rfl fun us w hp => ⟨#[us 9], by simp only [List.map_toArray, List.map_cons, List.map_nil]; rfl, by
            obtain ⟨hs, h1⟩ := hp.2.1 9 (by kernel_rfl)
            exact (concat_any w (us 9) hs [cur, onesL (⟨0, (at_ : Int), 0, 0, 0⟩ : Stp) [21], rowsL (⟨0, (at_ : Int), 0, 0, 0⟩ : Stp) 22 p.vocab] h1 (by simp) (by have := hlen; simp [lens, onesL_length, rowsL_length] at this ⊢; omega)).mono fun e w' h => h.m (hB w hp.1)⟩)
            (obls_cons (obl_move rfl (.inr rfl) fun us w hp => by rw [hL1]; exact hp.2.1 10 (by kernel_rfl))
            obls_nil))))))))))))
        intro us w6 hb6 hΦ
        have hs11 : stepsP (W.heap.size + 2) L1 w6 (us 11) := hΦ 11 (by decide)
        obtain ⟨A6, c6, e6, ho6⟩ := hs11
        have hlen1 : L1.length ≤ 1202000 := by rw [hL1]; simp [onesL_length, rowsL_length]; omega
        obtain ⟨n1, hn1⟩ : ∃ n1, n1 = L1.length := ⟨_, rfl⟩
        rw [e6] at ho6
        rw [← hn1] at e6 ho6 hlen1
        rw [e6]
        have hst6 := (hb6.block _ (by omega)).trans hst
        have hpl6 := (hb6.block _ (by omega)).trans hpl
        have hbW6 := below_chain hbW hb6
        have hz6 := Nat.le_trans hz hb6.size
        have hL1e : L1 = onesL (⟨0, (at_ : Int), 0, 0, 0⟩ : Stp) [1] ++ layersL p at_ p.layers ++ onesL (⟨0, (at_ : Int), 0, 0, 0⟩ : Stp) [21] ++ rowsL (⟨0, (at_ : Int), 0, 0, 0⟩ : Stp) 22 p.vocab := by rw [hL1, hcur, hh9]; simp [List.append_assoc]
        have g6 : w6.cell? ⟨W.heap.size, 6, none⟩ = some (.int .i64 (p.prompt : Int)) := by rw [cell_of_row _ _ 6 _ _ _ hpl6]; rfl
        clear hcur hn ho hst hpl hbW hz hlen hh9 hs hc0 hB hs9 h9 hΦ hb6 e6 hL1 HI H5 H3
        by_cases hpa : p.prompt ≤ at_ + 1
        · have j1 : (p.prompt : Int) - 1 ≤ (at_ : Int) := by omega
          have j2 : (p.prompt : Int) ≤ 1000 := by omega
          have hon := (ones_any (w6.alloc (.cells #[.int .i64 23] 3)) (⟨0, (at_ : Int), 0, 0, 0⟩ : Stp) (.slice (some ⟨w6.heap.size, 0, none⟩) 1 1) [23] (ints_block (heap_alloc_new w6 _) 1 rfl (by decide)) (by decide)).mono (fun e w' h => h.m (B := W.heap.size + 2) (by rw [World.size_alloc]; omega))
          unfold Stp.val at hon
          simp only at hon
          have c0 : w6.cell? ⟨W.heap.size + 1, 0, none⟩ = some (.int .i64 0) := by rw [cell_of_row _ _ 0 _ _ _ hst6]; rfl
          have c1 : w6.cell? ⟨W.heap.size + 1, 1, none⟩ = some (.int .i64 (at_ : Int)) := by rw [cell_of_row _ _ 1 _ _ _ hst6]; rfl
          have c2 : w6.cell? ⟨W.heap.size + 1, 2, none⟩ = some (.int .i64 0) := by rw [cell_of_row _ _ 2 _ _ _ hst6]; rfl
          have c3 : w6.cell? ⟨W.heap.size + 1, 3, none⟩ = some (.int .i64 0) := by rw [cell_of_row _ _ 3 _ _ _ hst6]; rfl
          have c4 : w6.cell? ⟨W.heap.size + 1, 4, none⟩ = some (.int .i64 0) := by rw [cell_of_row _ _ 4 _ _ _ hst6]; rfl
          have H6 := Lib.hid (And.intro ho6 (And.intro hbW6 (And.intro hz6 (And.intro hn1 (And.intro hL1e hon)))))
          clear ho6 hbW6 hz6 hn1 hL1e hst6 hpl6 hon
          as_aux_lemma =>
            go_wp2_with (first | (go_at_call 108; (with_reducible refine Calls.mono H6.out.2.2.2.2.2 ?_); rintro e w8 ⟨v8, rfl, hv8, hb8⟩; obtain ⟨A8, c8, rfl, ho8⟩ := hv8; have hb68 := ((Below.refl _ w6).alloc (Nat.le_refl _) (.cells #[.int .i64 23] 3)).trans (hb8.mono (by simp)); have ho9 : Owns w8 (W.heap.size + 2) 5 (.slice A6 n1 c6) n1 (flatS L1) := H6.out.1.same (fun b hb => hb68.block b (H6.out.1.lt b hb).2) hb68.size; have H8 := Lib.hid (And.intro ho8.sees (And.intro ho9 hb68)); clear ho8 ho9 hb68 hb8 c0 c1 c2 c3 c4) | (at_builtin; refine wpList_append rfl (.tmp 42) (.tmp 45) 154 154 rfl (W.heap.size + 2) 69 _ 5 40 Try.underlying154 infoS _ n1 (flatS L1) rfl (by exact H8.out.2.1) _ 1 (flatS (onesL (⟨0, (at_ : Int), 0, 0, 0⟩ : Stp) [23])) rfl (by exact src_of_sees _ Try.underlying154 H8.out.1 (flatS_one _)) (by unfold maxLen; omega) (by omega) (Nat.le_trans H6.out.2.2.1 H8.out.2.2.size) ?_; intro A9 c9 w9 hown hg hbl; have H9 := Lib.hid (And.intro hown hg); clear hown hg hbl))
            go_ret
            have hb8 := below_chain H6.out.2.1 H8.out.2.2
            have hfin : placeL p at_ = L1 ++ onesL (⟨0, (at_ : Int), 0, 0, 0⟩ : Stp) [23] := by
              rw [H6.out.2.2.2.2.1]
              unfold Stp.placeL
              simp [hpa, List.append_assoc]
            have hfl : n1 + 1 = (placeL p at_).length := by rw [hfin, List.length_append, ← H6.out.2.2.2.1]; rfl
            refine ⟨A9, c9, ?_, ?_, hb8.grown H9.out.2 hb8.size (fun k e => by have := (H8.out.2.1.lt k e).1; omega)⟩
            · rw [← hfl]; rfl
            · rw [← hfl, hfin, flatS_append]; exact H9.out.1.mono (by omega)
        · have j1 : (at_ : Int) < (p.prompt : Int) - 1 := by omega
          have j2 : (p.prompt : Int) ≤ 1000 := by omega
          have hfin : placeL p at_ = L1 := by
            rw [hL1e]
            unfold Stp.placeL
            simp [hpa, List.append_assoc]
          have H6 := Lib.hid (And.intro ho6 (And.intro hbW6 (And.intro hn1 hfin)))
          clear ho6 hbW6 hz6 hn1 hL1e hst6 hpl6 hfin
          as_aux_lemma =>
            go_wp2_with fail
            go_ret
            refine ⟨A6, c6, ?_, ?_, H6.out.2.1⟩
            · rw [H6.out.2.2.2, ← H6.out.2.2.1]; rfl
            · rw [H6.out.2.2.2, ← H6.out.2.2.1]; exact H6.out.1.mono (by omega)
end Go.Proofs.Ytfhaebaegkpkhaa.Pln
