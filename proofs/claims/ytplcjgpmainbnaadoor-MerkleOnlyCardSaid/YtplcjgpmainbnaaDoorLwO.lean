/- MerkleOnly's walk. -/
import Derived.Test.YtplcjgpmainbnaaDoorLwF
import Derived.Test.YtplcjgpmainbnaaDoorLwK
set_option linter.unusedVariables false
set_option linter.unusedSimpArgs false
namespace Go.Proofs.YtplcjgpmainbnaaDoor.MkW
open Go.RowKit OwnS ShaW RevL QTail
attribute [local go_sem ↓] Kit.execOp_call_slot
attribute [local go_sem] Kit.callSlot_func
theorem only_found (ds : List (List Nat)) (i : Nat) (l0 b : List Nat) (xs : List (List Nat)) (h0 : ds[i]? = some (leafH l0)) (hd : ∀ d ∈ ds, Dig d) (hx : ∀ d ∈ xs, Dig d) (hl : (partsOf ds.length i).length = xs.length)
    (hf : foldN ds.length i xs (leafH b) = rootN ds) (hne : ¬ (b = l0 ∧ proofN i ds = xs)) (hpd : ∀ d ∈ proofN i ds, Dig d) : foundN (sidesOf ds.length i) l0 b (proofN i ds) xs = true := by
  cases hv : foundN (sidesOf ds.length i) l0 b (proofN i ds) xs with
  | true => rfl
  | false =>
    exfalso
    unfold foundN at hv
    rw [Bool.or_eq_false_iff] at hv
    have hi := (List.getElem?_eq_some_iff.1 h0).1
    have h1 := fold_proof ds i _ h0
    have hsl : (sidesOf ds.length i).length = (partsOf ds.length i).length := by unfold sidesOf; simp
    have hpl := proof_length ds i hi
    have h2 := Mk.foundUp_not Sha.sum sum_length (sidesOf ds.length i) (proofN i ds) xs (leafH l0) (leafH b) (by omega) (by omega) (dig_leaf _).1 (dig_leaf _).1 (fun q hq => (hpd q hq).1) (fun r hr => (hx r hr).1) (by
      unfold foldN at hf h1
      rw [h1, hf]) hv.2
    have h3 := hv.1
    unfold collides at h3
    have h4 : Sha.sum (0 :: l0) = Sha.sum (0 :: b) := h2.1
    rw [decide_eq_true h4, Bool.and_true, decide_eq_false_iff_not] at h3
    have h5 : (0 :: l0) = (0 :: b) := Classical.not_not.1 h3
    injection h5 with _ h6
    exact hne ⟨h6.symm, h2.2⟩
theorem proof_dig (ds : List (List Nat)) (i : Nat) (hi : i < ds.length) (hd : ∀ d ∈ ds, Dig d) : ∀ d ∈ proofN i ds, Dig d := by
  have h1 := Mk.parts_proof (Sha.sum [2]) (Mk.nodeH Sha.sum) ds.length 0 ds.length i ds (by omega) (Nat.zero_le _) (Nat.le_refl _) (Nat.zero_le _) hi
  simp only [Nat.sub_zero, List.take_length, List.drop_zero] at h1
  intro d h
  rw [show proofN i ds = _ from h1.symm] at h
  rw [List.mem_reverse, List.mem_map] at h
  obtain ⟨p, -, rfl⟩ := h
  exact dig_root _ _ (Nat.le_refl _) (fun d hd' => hd d (List.mem_of_mem_take (List.mem_of_mem_drop hd')))
set_option maxRecDepth 100000 in
set_option maxHeartbeats 4000000 in
theorem only_some (W : World) (g o cap : Nat) (hs : List Value) (ls : List (List Nat)) (i : Nat) (N I : Int) (bv pv : Value) (b : List Nat) (xs : List (List Nat)) (hG : Glob W) (h : RowsAt W (.slice (some ⟨g, o, none⟩) ls.length cap) hs ls) (hfew : few ls = true) (hb : Sees W 1 bv b.length (bytesV b)) (hbb : ∀ x ∈ b, x < 256) (hbl : b.length ≤ 100) (hp : DigsAt W pv xs) (hpl : xs.length ≤ 70) (hi : i < ls.length) :
    Calls Tryd.prog 6 #[.slice (some ⟨g, o, none⟩) ls.length cap, .int .i64 i, .agg #[.int .i64 N, .int .i64 I, bv, pv]] W fun e w' => e = .returned (.bool true) ∧ Below W.heap.size W w' := by
  obtain ⟨hl20, hl100⟩ := few_of hfew
  obtain ⟨bA, bc, rfl, -, -⟩ := hb.form
  obtain ⟨pA, pc, rfl, -, -⟩ := hp.form
  have hll : (ls.map leafH).length = ls.length := List.length_map _
  have m0 : ∀ l ∈ ls, l.length ≤ 1000000 := fun l hl => by have := hl100 l hl; omega
  obtain ⟨l0, hl0⟩ : ∃ l0, ls[i]? = some l0 := ⟨_, List.getElem?_eq_getElem hi⟩
  obtain ⟨P, hP⟩ : ∃ P, P = proofN i (ls.map leafH) := ⟨_, rfl⟩
  obtain ⟨R, hR⟩ : ∃ R, R = rootN (ls.map leafH) := ⟨_, rfl⟩
  have dR : Dig R := by rw [hR]; exact dig_root _ _ (Nat.le_refl _) (dig_leaves _)
  have hPl : (partsOf ls.length i).length = P.length := by
    have := proof_length (ls.map leafH) i (by omega)
    rw [hll] at this
    rw [this, hP]
  obtain ⟨W0, hW0⟩ : ∃ W0, W0 = W.alloc (.cells #[.int .i64 N, .int .i64 I, .slice bA b.length bc, .slice pA xs.length pc] 40) := ⟨_, rfl⟩
  have hb0 : Below W.heap.size W W0 := by rw [hW0]; exact (Below.refl _ _).alloc (Nat.le_refl _) _
  have hx0 : W0.heap[W.heap.size]? = some (.cells #[.int .i64 N, .int .i64 I, .slice bA b.length bc, .slice pA xs.length pc] 40 (0, 0)) := by rw [hW0]; exact heap_alloc_new _ _
  have cells : ∀ w, Below W0.heap.size W0 w → w.cell? ⟨W.heap.size, 0, none⟩ = some (.int .i64 N) ∧ w.cell? ⟨W.heap.size, 1, none⟩ = some (.int .i64 I) ∧ w.cell? ⟨W.heap.size, 2, none⟩ = some (.slice bA b.length bc) ∧ w.cell? ⟨W.heap.size, 3, none⟩ = some (.slice pA xs.length pc) := fun w hw => by
    have k6 := (hw.block _ (Array.getElem?_eq_some_iff.1 hx0).1).trans hx0
    exact ⟨by rw [cell_of_row _ _ 0 _ _ _ k6]; rfl, by rw [cell_of_row _ _ 1 _ _ _ k6]; rfl, by rw [cell_of_row _ _ 2 _ _ _ k6]; rfl, by rw [cell_of_row _ _ 3 _ _ _ k6]; rfl⟩
  have hF := few_any W0 _ hs ls (h.new hb0)
  rw [hfew] at hF
  have cP := fun (w : World) (hw : Below W.heap.size W w) => Prove_any w _ hs ls i (hG.new hw) (h.new hw) (by omega) m0 hi
  rw [← hP] at cP
  have cR := fun (w : World) (hw : Below W.heap.size W w) => Root_any w _ hs ls (hG.new hw) (h.new hw) (by omega) m0
  rw [← hR] at cR
  have hc0 := cells W0 (Below.refl _ _)
  rw [hW0] at hc0
  obtain ⟨-, -, e2, e3⟩ := hc0
  have hlc := h.sees.form
  obtain ⟨A0, c0, ef, hlc, hcm⟩ := hlc
  injection ef with ef1 ef2 ef3
  subst ef3
  clear ef1 ef2 A0
  obtain ⟨l0', g', o', cap', A', c', k1, k2, k3, k4⟩ := h.cell hi
  rw [hl0] at k1
  injection k1 with k1
  subst k1
  injection k2 with k21 k2x k23
  injection k21 with k21
  injection k21 with k21 k22
  subst k21 k22 k23
  clear k2x
  have H := Lib.hid (And.intro hG (And.intro h (And.intro hF (And.intro cP (And.intro cR (And.intro hb (And.intro hbb hp)))))))
  have HL := Lib.hid (And.intro hl0 (And.intro m0 (And.intro hP (And.intro hR (And.intro dR (And.intro hPl hll))))))
  have H0 := Lib.hid (And.intro hb0 (And.intro cells hW0))
  have HC := Lib.hid (And.intro k3 k4)
  have HW := Lib.hid (fun (w : World) (hw : Below W.heap.size W w) => awake_any w (hG.new hw))
  rw [hW0] at hF
  have HF := Lib.hid hF
  clear hG h hF cP cR hb hbb hp hl0 m0 hP hR dR hPl hll hb0 cells hW0 hx0 k3 k4
  have g0 : ¬ (i : Int) < 0 := by omega
  have g1 : ¬ (ls.length : Int) ≤ (i : Int) := by omega
  have g2 : ¬ (100 : Int) < (b.length : Int) := by omega
  have g3 : ¬ (70 : Int) < (xs.length : Int) := by omega
  have g4 : (i : Int) < (ls.length : Int) := by omega
  go_enter Tryd.func6, Tryd.ntmps6
  go_upto_region 3 with (go_at_call 10; (with_reducible refine Calls.mono HF.out ?_); rintro e w1 ⟨rfl, hb1⟩; rw [← H0.out.2.2] at hb1; have e21 := (H0.out.2.1 _ hb1).2.2.1; have e31 := (H0.out.2.1 _ hb1).2.2.2; have H1 := Lib.hid hb1; clear hb1)
  go_upto_region 4 with (go_at_call 18; (with_reducible refine Calls.mono (H.out.2.2.2.1 _ (below_chain H0.out.1 H1.out)) ?_); rintro e w2 ⟨qA, qc, rfl, ho2, hb2⟩; have hb2' := below_chain H1.out hb2; have e22 := (H0.out.2.1 _ hb2').2.2.1; have e32 := (H0.out.2.1 _ hb2').2.2.2; have H2 := Lib.hid (And.intro ho2 (And.intro hb2' (below_chain H0.out.1 hb2'))); clear ho2 hb2 hb2')
  have q4 : ∀ op x y w c d, (eqGuard op 24 x y (digV c) (digV d)).run Tryd.prog w = .ok () w := fun op x y w c d => run_guard_dig op x y w c d
  by_cases hm : P.length = xs.length
  · have hmx : (partsOf ls.length i).length = xs.length := by rw [HL.out.2.2.2.2.2.1, hm]
    have cF := fold_some w2 ls.length i _ _ b xs (by omega) hi (H.out.1.new H2.out.2.2) (H.out.2.2.2.2.2.1.new H2.out.2.2) H.out.2.2.2.2.2.2.1 (by omega) (H.out.2.2.2.2.2.2.2.new H2.out.2.2) hmx
    obtain ⟨D, hD⟩ : ∃ D, D = foldN ls.length i xs (leafH b) := ⟨_, rfl⟩
    have dD : Dig D := by rw [hD]; exact foldUp_dig _ _ _ (dig_leaf _)
    rw [← hD] at cF
    have HFo := Lib.hid (And.intro cF (And.intro dD (And.intro hD hmx)))
    clear cF dD hD hmx hm
    go_upto_region 5 with (first | (go_at_call 21; (with_reducible refine Calls.mono HFo.out.1 ?_); rintro e w3 ⟨rfl, hb3⟩) | (refine wpList_store_dig rfl (.tmp 9) (.tmp 53) rfl w3.heap.size rfl D rfl HFo.out.2.1.1 zero32 (by exact heap_alloc_new _ _) zero32_length ?_))
    change Code.wp _ _ _ _ ((w3.alloc (.cells zero32.toArray 24)).setRow w3.heap.size (bytesV D).toArray)
    obtain ⟨x3, hx3, hv3, hB3, hs3⟩ := dig_cut w3 D
    rw [← hx3]
    have hX3 : Below w2.heap.size w2 x3 := below_chain hb3 hB3
    obtain ⟨r1, hq1⟩ : ∃ r1, r1 = w3.heap.size := ⟨_, rfl⟩
    rw [← hq1] at hv3 hs3 ⊢
    have HX3 := Lib.hid (And.intro hv3 (And.intro (below_chain H2.out.2.2 hX3) (And.intro (below_chain H2.out.2.1 hX3) (H2.out.1.digs.new hX3))))
    clear hv3 hs3 hb3 hB3 hX3 hx3 hq1
    obtain ⟨t, ht⟩ : ∃ t, t = decide (D = R) := ⟨_, rfl⟩
    have q1 : ∀ w, (binOp .neq 24 (digV D) (digV R)).run Tryd.prog w = .ok (.bool !t) w := fun w => by rw [run_neq_dig w D R HFo.out.2.1 HL.out.2.2.2.2.1, ht]
    have HT := Lib.hid ht
    clear ht
    go_upto_region 7 with fail
    refine wp_region_below x3.heap.size (by kernel_rfl) (by kernel_rfl) ?_
    intro I' hNI F hF hFi
    have c1 := fun j => in_class (f := 14) hF hFi j (H.out.2.2.2.2.1 _ (below_chain HX3.out.2.1 (hF j)))
    have v1 := fun j => rangeAt_whole (((hF j).block r1 (Array.getElem?_eq_some_iff.1 HX3.out.1).1).trans HX3.out.1)
    have HFF := Lib.hid (And.intro c1 (And.intro v1 hF))
    clear c1 v1 hF hFi
    repeat (first | (refine wpQuiet_load_dig_w rfl (.tmp 9) rfl r1 0 rfl D HFo.out.2.1.1 (by rintro _ ⟨n, rfl⟩; exact HFF.out.2.1 n) ?_; simp only [Act.put, List.setIfInBounds_toArray, List.set_cons_succ, List.set_cons_zero]) | go_big_quiet_step ((go_at_call 14; exact HFF.out.1 _)))
    refine wpQuiet_nil ?_
    rintro x4 ⟨j, hj⟩
    have hb4 : Below x3.heap.size x3 x4 := by rw [hj]; exact HFF.out.2.2 j
    have HX4 := Lib.hid (And.intro hb4 (And.intro (below_chain HX3.out.2.1 hb4) (And.intro (below_chain HX3.out.2.2.1 hb4) (HX3.out.2.2.2.new hb4))))
    clear hb4 hj HFF
    cases t with
    | false =>
      go_wp2_with (go_at_call 11; (with_reducible refine Calls.mono (HW.out _ HX4.out.2.1) ?_); rintro e w5 ⟨rfl, hb5⟩)
      go_ret
      exact ⟨rfl, below_chain HX4.out.2.1 hb5⟩
    | true =>
      obtain ⟨s1, hs1⟩ : ∃ s1, s1 = decide (b = l0) := ⟨_, rfl⟩
      obtain ⟨s2, hs2⟩ : ∃ s2, s2 = decide (P = xs) := ⟨_, rfl⟩
      have k0 : ∀ w, Below x4.heap.size x4 w → w.cell? ⟨g, o + i, none⟩ = some (.slice A' l0.length c') := fun w hw => ((below_chain HX4.out.2.1 hw).cell (block_lt_of_cell HC.out.1)).trans HC.out.1
      have kc := fun (w : World) (hw : Below x4.heap.size x4 w) => H0.out.2.1 w (below_chain HX4.out.2.2.1 hw)
      have HS := Lib.hid (And.intro hs1 (And.intro hs2 (And.intro k0 kc)))
      clear hs1 hs2 k0 kc
      go_upto_region 9 with fail
      refine wp_region_below x4.heap.size (by kernel_rfl) (by kernel_rfl) ?_
      intro I' hNI F hF hFi
      have c1 := fun j => in_classB (f := 24) hF hFi j (bytes_any (F j) _ _ b l0 (H.out.2.2.2.2.2.1.new (below_chain HX4.out.2.1 (hF j))) (HC.out.2.new (below_chain HX4.out.2.1 (hF j))))
      have c2 := fun j => in_classB (f := 19) hF hFi j (digests_eq (F j) _ _ P xs (HX4.out.2.2.2.new (hF j)) (H.out.2.2.2.2.2.2.2.new (below_chain HX4.out.2.1 (hF j))))
      rw [← HS.out.1] at c1
      rw [← HS.out.2.1] at c2
      have f0 : ∀ j, (F j).cell? ⟨g, o + i, none⟩ = some (.slice A' l0.length c') := fun j => HS.out.2.2.1 _ (hF j)
      have f2 : ∀ j, (F j).cell? ⟨W.heap.size, 2, none⟩ = some (.slice bA b.length bc) := fun j => (HS.out.2.2.2 _ (hF j)).2.2.1
      have f3 : ∀ j, (F j).cell? ⟨W.heap.size, 3, none⟩ = some (.slice pA xs.length pc) := fun j => (HS.out.2.2.2 _ (hF j)).2.2.2
      have HFF := Lib.hid (And.intro c1 (And.intro c2 hF))
      clear c1 c2 hF hFi
      cases s1 with
      | false =>
        repeat (go_big_quiet_step ((first | (go_at_call 24; exact HFF.out.1 _) | (go_at_call 19; exact HFF.out.2.1 _))))
        refine wpQuiet_nil ?_
        rintro x5 ⟨j, hj⟩
        have hb5 : Below x4.heap.size x4 x5 := by rw [hj]; exact HFF.out.2.2 j
        have k0 : ∀ w, Below x5.heap.size x5 w → w.cell? ⟨g, o + i, none⟩ = some (.slice A' l0.length c') := fun w hw => HS.out.2.2.1 w (below_chain hb5 hw)
        have kc := fun (w : World) (hw : Below x5.heap.size x5 w) => HS.out.2.2.2 w (below_chain hb5 hw)
        have HX5 := Lib.hid (And.intro (below_chain HX4.out.2.1 hb5) (And.intro (HX4.out.2.2.2.new hb5) (And.intro k0 kc)))
        clear hb5 hj HFF f0 f2 f3 k0 kc
        have hDR := of_decide_eq_true HT.out.symm
        have hfo : foundN (sidesOf ls.length i) l0 b P xs = true := by
          have := only_found (ls.map leafH) i l0 b xs (by rw [List.getElem?_map, HL.out.1]; rfl) (dig_leaves _) H.out.2.2.2.2.2.2.2.dig (by rw [HL.out.2.2.2.2.2.2]; exact HFo.out.2.2.2) (by rw [HL.out.2.2.2.2.2.2, ← HFo.out.2.2.1, ← HL.out.2.2.2.1]; exact hDR) (by rw [← HL.out.2.2.1]; rintro ⟨h1, h2⟩; exact absurd h1 (of_decide_eq_false HS.out.1.symm)) (proof_dig _ _ (by rw [HL.out.2.2.2.2.2.2]; exact hi) (dig_leaves _))
          rwa [HL.out.2.2.2.2.2.2, ← HL.out.2.2.1] at this
        have HO := Lib.hid hfo
        clear hfo hDR
        go_wp2_with fail
        refine wp_region_below x5.heap.size (by kernel_rfl) (by kernel_rfl) ?_
        intro I' hNI' F' hF hFi
        have c1 := fun j => in_classB (f := 25) hF hFi j (found_any (F' j) ls.length i 0 0 N I _ _ _ _ l0 b P xs (H.out.1.new (below_chain HX5.out.1 (hF j))) (by omega) hi (HC.out.2.new (below_chain HX5.out.1 (hF j))) (H.out.2.2.2.2.2.1.new (below_chain HX5.out.1 (hF j))) (H.out.2.1.byte l0 (List.mem_of_getElem? HL.out.1)) H.out.2.2.2.2.2.2.1 (by have := HL.out.2.1 l0 (List.mem_of_getElem? HL.out.1); omega) (by omega) (HX5.out.2.1.new (hF j)) (H.out.2.2.2.2.2.2.2.new (below_chain HX5.out.1 (hF j))) HL.out.2.2.2.2.2.1 HFo.out.2.2.2)
        rw [HO.out] at c1
        have c2 := fun j => in_classB (f := 11) hF hFi j (HW.out _ (below_chain HX5.out.1 (hF j)))
        have f0 : ∀ j, (F' j).cell? ⟨g, o + i, none⟩ = some (.slice A' l0.length c') := fun j => HX5.out.2.2.1 _ (hF j)
        have f1 : ∀ j, (F' j).cell? ⟨W.heap.size, 0, none⟩ = some (.int .i64 N) := fun j => (HX5.out.2.2.2 _ (hF j)).1
        have f2 : ∀ j, (F' j).cell? ⟨W.heap.size, 1, none⟩ = some (.int .i64 I) := fun j => (HX5.out.2.2.2 _ (hF j)).2.1
        have f3 : ∀ j, (F' j).cell? ⟨W.heap.size, 2, none⟩ = some (.slice bA b.length bc) := fun j => (HX5.out.2.2.2 _ (hF j)).2.2.1
        have f4 : ∀ j, (F' j).cell? ⟨W.heap.size, 3, none⟩ = some (.slice pA xs.length pc) := fun j => (HX5.out.2.2.2 _ (hF j)).2.2.2
        have HFF := Lib.hid (And.intro c1 (And.intro c2 hF))
        clear c1 c2 hF hFi
        repeat (go_big_quiet_step ((first | (go_at_call 25; exact HFF.out.1 _) | (go_at_call 11; exact HFF.out.2.1 _))))
        refine wpQuiet_nil ?_
        rintro x6 ⟨j', hj'⟩
        have hB6 : Below W.heap.size W x6 := by rw [hj']; exact below_chain HX5.out.1 (HFF.out.2.2 j')
        have HB6 := Lib.hid hB6
        clear hB6 hj'
        go_wp2_with fail
        go_ret
        exact ⟨rfl, HB6.out⟩
      | true =>
        cases s2 with
        | false =>
          repeat (go_big_quiet_step ((first | (go_at_call 24; exact HFF.out.1 _) | (go_at_call 19; exact HFF.out.2.1 _))))
          refine wpQuiet_nil ?_
          rintro x5 ⟨j, hj⟩
          have hb5 : Below x4.heap.size x4 x5 := by rw [hj]; exact HFF.out.2.2 j
          have k0 : ∀ w, Below x5.heap.size x5 w → w.cell? ⟨g, o + i, none⟩ = some (.slice A' l0.length c') := fun w hw => HS.out.2.2.1 w (below_chain hb5 hw)
          have kc := fun (w : World) (hw : Below x5.heap.size x5 w) => HS.out.2.2.2 w (below_chain hb5 hw)
          have HX5 := Lib.hid (And.intro (below_chain HX4.out.2.1 hb5) (And.intro (HX4.out.2.2.2.new hb5) (And.intro k0 kc)))
          clear hb5 hj HFF f0 f2 f3 k0 kc
          have hDR := of_decide_eq_true HT.out.symm
          have hfo : foundN (sidesOf ls.length i) l0 b P xs = true := by
            have := only_found (ls.map leafH) i l0 b xs (by rw [List.getElem?_map, HL.out.1]; rfl) (dig_leaves _) H.out.2.2.2.2.2.2.2.dig (by rw [HL.out.2.2.2.2.2.2]; exact HFo.out.2.2.2) (by rw [HL.out.2.2.2.2.2.2, ← HFo.out.2.2.1, ← HL.out.2.2.2.1]; exact hDR) (by rw [← HL.out.2.2.1]; rintro ⟨h1, h2⟩; exact absurd h2 (of_decide_eq_false HS.out.2.1.symm)) (proof_dig _ _ (by rw [HL.out.2.2.2.2.2.2]; exact hi) (dig_leaves _))
            rwa [HL.out.2.2.2.2.2.2, ← HL.out.2.2.1] at this
          have HO := Lib.hid hfo
          clear hfo hDR
          go_wp2_with fail
          refine wp_region_below x5.heap.size (by kernel_rfl) (by kernel_rfl) ?_
          intro I' hNI' F' hF hFi
          have c1 := fun j => in_classB (f := 25) hF hFi j (found_any (F' j) ls.length i 0 0 N I _ _ _ _ l0 b P xs (H.out.1.new (below_chain HX5.out.1 (hF j))) (by omega) hi (HC.out.2.new (below_chain HX5.out.1 (hF j))) (H.out.2.2.2.2.2.1.new (below_chain HX5.out.1 (hF j))) (H.out.2.1.byte l0 (List.mem_of_getElem? HL.out.1)) H.out.2.2.2.2.2.2.1 (by have := HL.out.2.1 l0 (List.mem_of_getElem? HL.out.1); omega) (by omega) (HX5.out.2.1.new (hF j)) (H.out.2.2.2.2.2.2.2.new (below_chain HX5.out.1 (hF j))) HL.out.2.2.2.2.2.1 HFo.out.2.2.2)
          rw [HO.out] at c1
          have c2 := fun j => in_classB (f := 11) hF hFi j (HW.out _ (below_chain HX5.out.1 (hF j)))
          have f0 : ∀ j, (F' j).cell? ⟨g, o + i, none⟩ = some (.slice A' l0.length c') := fun j => HX5.out.2.2.1 _ (hF j)
          have f1 : ∀ j, (F' j).cell? ⟨W.heap.size, 0, none⟩ = some (.int .i64 N) := fun j => (HX5.out.2.2.2 _ (hF j)).1
          have f2 : ∀ j, (F' j).cell? ⟨W.heap.size, 1, none⟩ = some (.int .i64 I) := fun j => (HX5.out.2.2.2 _ (hF j)).2.1
          have f3 : ∀ j, (F' j).cell? ⟨W.heap.size, 2, none⟩ = some (.slice bA b.length bc) := fun j => (HX5.out.2.2.2 _ (hF j)).2.2.1
          have f4 : ∀ j, (F' j).cell? ⟨W.heap.size, 3, none⟩ = some (.slice pA xs.length pc) := fun j => (HX5.out.2.2.2 _ (hF j)).2.2.2
          have HFF := Lib.hid (And.intro c1 (And.intro c2 hF))
          clear c1 c2 hF hFi
          repeat (go_big_quiet_step ((first | (go_at_call 25; exact HFF.out.1 _) | (go_at_call 11; exact HFF.out.2.1 _))))
          refine wpQuiet_nil ?_
          rintro x6 ⟨j', hj'⟩
          have hB6 : Below W.heap.size W x6 := by rw [hj']; exact below_chain HX5.out.1 (HFF.out.2.2 j')
          have HB6 := Lib.hid hB6
          clear hB6 hj'
          go_wp2_with fail
          go_ret
          exact ⟨rfl, HB6.out⟩
        | true =>
          repeat (go_big_quiet_step ((first | (go_at_call 24; exact HFF.out.1 _) | (go_at_call 19; exact HFF.out.2.1 _))))
          refine wpQuiet_nil ?_
          rintro x5 ⟨j, hj⟩
          have hb5 : Below x4.heap.size x4 x5 := by rw [hj]; exact HFF.out.2.2 j
          have k0 : ∀ w, Below x5.heap.size x5 w → w.cell? ⟨g, o + i, none⟩ = some (.slice A' l0.length c') := fun w hw => HS.out.2.2.1 w (below_chain hb5 hw)
          have kc := fun (w : World) (hw : Below x5.heap.size x5 w) => HS.out.2.2.2 w (below_chain hb5 hw)
          have HX5 := Lib.hid (And.intro (below_chain HX4.out.2.1 hb5) (And.intro (HX4.out.2.2.2.new hb5) (And.intro k0 kc)))
          clear hb5 hj HFF f0 f2 f3 k0 kc
          go_wp2_with fail
          refine wp_region_below x5.heap.size (by kernel_rfl) (by kernel_rfl) ?_
          intro I' hNI' F' hF hFi
          have c2 := fun j => in_classB (f := 11) hF hFi j (HW.out _ (below_chain HX5.out.1 (hF j)))
          have HFF := Lib.hid (And.intro c2 hF)
          clear c2 hF hFi
          repeat (go_big_quiet_step ((go_at_call 11; exact HFF.out.1 _)))
          refine wpQuiet_nil ?_
          rintro x6 ⟨j', hj'⟩
          have hB6 : Below W.heap.size W x6 := by rw [hj']; exact below_chain HX5.out.1 (HFF.out.2 j')
          have HB6 := Lib.hid hB6
          clear hB6 hj'
          go_wp2_with fail
          go_ret
          exact ⟨rfl, HB6.out⟩
  · have cF := fold_wrong w2 ls.length i (.slice bA b.length bc) (.slice pA xs.length pc) pA xs.length pc (by omega) hi (by rw [HL.out.2.2.2.2.2.1]; exact hm)
    have HFo := Lib.hid cF
    clear cF hm
    go_upto_region 5 with (first | (go_at_call 21; (with_reducible refine Calls.mono HFo.out ?_); rintro e w3 ⟨rfl, hb3⟩) | (refine wpList_store_dig rfl (.tmp 9) (.tmp 53) rfl w3.heap.size rfl zeroD rfl rfl zero32 (by exact heap_alloc_new _ _) zero32_length ?_))
    change Code.wp _ _ _ _ ((w3.alloc (.cells zero32.toArray 24)).setRow w3.heap.size (bytesV zeroD).toArray)
    obtain ⟨x3, hx3, hv3, hB3, hs3⟩ := dig_cut w3 zeroD
    rw [← hx3]
    have HX3 := Lib.hid (below_chain H2.out.2.2 (below_chain hb3 hB3))
    clear hv3 hs3 hb3 hB3 hx3
    go_upto_region 7 with fail
    go_quiet (fail)
    have hd : Below W.heap.size W (x3.drewN nq) := ⟨HX3.out.os, HX3.out.tape, HX3.out.output, HX3.out.size, HX3.out.block⟩
    have HD := Lib.hid hd
    clear hd
    go_wp2_with (go_at_call 11; (with_reducible refine Calls.mono (HW.out _ HD.out) ?_); rintro e w5 ⟨rfl, hb5⟩)
    go_ret
    exact ⟨rfl, below_chain HD.out hb5⟩
set_option maxRecDepth 100000 in
set_option maxHeartbeats 1000000 in
theorem only_off (W : World) (v : Value) (hs : List Value) (ls : List (List Nat)) (i N I : Int) (bA pA : Option Addr) (bl bc pl pc : Nat) (hG : Glob W) (h : RowsAt W v hs ls) (hf : few ls = false ∨ 100 < bl ∨ 70 < pl ∨ i < 0 ∨ (ls.length : Int) ≤ i) :
    Calls Tryd.prog 6 #[v, .int .i64 i, .agg #[.int .i64 N, .int .i64 I, .slice bA bl bc, .slice pA pl pc]] W fun e w' => e = .returned (.bool true) ∧ Below W.heap.size W w' := by
  obtain ⟨A, c, rfl, hlc, hcm⟩ := h.sees.form
  have hb0 : Below W.heap.size W (W.alloc (.cells #[.int .i64 N, .int .i64 I, .slice bA bl bc, .slice pA pl pc] 40)) := (Below.refl _ _).alloc (Nat.le_refl _) _
  have hx0 : (W.alloc (.cells #[.int .i64 N, .int .i64 I, .slice bA bl bc, .slice pA pl pc] 40)).heap[W.heap.size]? = some (.cells #[.int .i64 N, .int .i64 I, .slice bA bl bc, .slice pA pl pc] 40 (0, 0)) := heap_alloc_new _ _
  have c20 : (W.alloc (.cells #[.int .i64 N, .int .i64 I, .slice bA bl bc, .slice pA pl pc] 40)).cell? ⟨W.heap.size, 2, none⟩ = some (.slice bA bl bc) := by rw [cell_of_row _ _ 2 _ _ _ hx0]; rfl
  have c30 : (W.alloc (.cells #[.int .i64 N, .int .i64 I, .slice bA bl bc, .slice pA pl pc] 40)).cell? ⟨W.heap.size, 3, none⟩ = some (.slice pA pl pc) := by rw [cell_of_row _ _ 3 _ _ _ hx0]; rfl
  have hF := few_any _ _ hs ls (h.new hb0)
  have HB0 := Lib.hid hb0
  have HW := Lib.hid (fun (w : World) (hw : Below W.heap.size W w) => awake_any w (hG.new hw))
  clear hG hb0 hx0
  by_cases hb : few ls = true
  · rw [hb] at hF
    have HF := Lib.hid hF
    have hf' : 100 < bl ∨ 70 < pl ∨ i < 0 ∨ (ls.length : Int) ≤ i := by rcases hf with hf | hf; rw [hf] at hb; cases hb; exact hf
    have HO := Lib.hid hf'
    clear hF hb hf h hf'
    go_enter Tryd.func6, Tryd.ntmps6
    by_cases g1 : 100 < bl
    · have g1' : (100 : Int) < (bl : Int) := by omega
      go_wp2_with (first | (go_at_call 10; (with_reducible refine Calls.mono HF.out ?_); rintro e w1 ⟨rfl, hb1⟩; have c21 := (hb1.cell (block_lt_of_cell c20)).trans c20; have c31 := (hb1.cell (block_lt_of_cell c30)).trans c30; have HB1 := Lib.hid (below_chain HB0.out hb1); clear hb1) | (go_at_call 11; (with_reducible refine Calls.mono (HW.out _ HB1.out) ?_); rintro e w5 ⟨rfl, hb5⟩))
      go_ret
      exact ⟨rfl, below_chain HB1.out hb5⟩
    · have g1' : ¬ (100 : Int) < (bl : Int) := by omega
      by_cases g2 : 70 < pl
      · have g2' : (70 : Int) < (pl : Int) := by omega
        go_wp2_with (first | (go_at_call 10; (with_reducible refine Calls.mono HF.out ?_); rintro e w1 ⟨rfl, hb1⟩; have c21 := (hb1.cell (block_lt_of_cell c20)).trans c20; have c31 := (hb1.cell (block_lt_of_cell c30)).trans c30; have HB1 := Lib.hid (below_chain HB0.out hb1); clear hb1) | (go_at_call 11; (with_reducible refine Calls.mono (HW.out _ HB1.out) ?_); rintro e w5 ⟨rfl, hb5⟩))
        go_ret
        exact ⟨rfl, below_chain HB1.out hb5⟩
      · have g2' : ¬ (70 : Int) < (pl : Int) := by omega
        by_cases g3 : i < 0
        · skip
          go_wp2_with (first | (go_at_call 10; (with_reducible refine Calls.mono HF.out ?_); rintro e w1 ⟨rfl, hb1⟩; have c21 := (hb1.cell (block_lt_of_cell c20)).trans c20; have c31 := (hb1.cell (block_lt_of_cell c30)).trans c30; have HB1 := Lib.hid (below_chain HB0.out hb1); clear hb1) | (go_at_call 11; (with_reducible refine Calls.mono (HW.out _ HB1.out) ?_); rintro e w5 ⟨rfl, hb5⟩))
          go_ret
          exact ⟨rfl, below_chain HB1.out hb5⟩
        · have g4 : (ls.length : Int) ≤ i := by have := HO.out; omega
          go_wp2_with (first | (go_at_call 10; (with_reducible refine Calls.mono HF.out ?_); rintro e w1 ⟨rfl, hb1⟩; have c21 := (hb1.cell (block_lt_of_cell c20)).trans c20; have c31 := (hb1.cell (block_lt_of_cell c30)).trans c30; have HB1 := Lib.hid (below_chain HB0.out hb1); clear hb1) | (go_at_call 11; (with_reducible refine Calls.mono (HW.out _ HB1.out) ?_); rintro e w5 ⟨rfl, hb5⟩))
          go_ret
          exact ⟨rfl, below_chain HB1.out hb5⟩
  · rw [show few ls = false by simpa using hb] at hF
    have HF := Lib.hid hF
    clear hF hb hf h
    go_enter Tryd.func6, Tryd.ntmps6
    go_wp2_with (first | (go_at_call 10; (with_reducible refine Calls.mono HF.out ?_); rintro e w1 ⟨rfl, hb1⟩; have c21 := (hb1.cell (block_lt_of_cell c20)).trans c20; have c31 := (hb1.cell (block_lt_of_cell c30)).trans c30; have HB1 := Lib.hid (below_chain HB0.out hb1); clear hb1) | (go_at_call 11; (with_reducible refine Calls.mono (HW.out _ HB1.out) ?_); rintro e w5 ⟨rfl, hb5⟩))
    go_ret
    exact ⟨rfl, below_chain HB1.out hb5⟩
theorem only_law (W : World) (v : Value) (hs : List Value) (ls : List (List Nat)) (i N I : Int) (bv pv : Value) (b : List Nat) (xs : List (List Nat)) (hG : Glob W) (h : RowsAt W v hs ls) (hb : Sees W 1 bv b.length (bytesV b)) (hbb : ∀ x ∈ b, x < 256) (hp : DigsAt W pv xs) :
    Calls Tryd.prog 6 #[v, .int .i64 i, .agg #[.int .i64 N, .int .i64 I, bv, pv]] W fun e w' => e = .returned (.bool true) ∧ Below W.heap.size W w' := by
  obtain ⟨bA, bc, rfl, -, -⟩ := hb.form
  obtain ⟨pA, pc, rfl, -, -⟩ := hp.form
  by_cases ho : few ls = false ∨ 100 < b.length ∨ 70 < xs.length ∨ i < 0 ∨ (ls.length : Int) ≤ i
  · exact only_off W v hs ls i N I bA pA b.length bc xs.length pc hG h ho
  · have h1 : few ls = true := by cases hf : few ls with | true => rfl | false => exact absurd (.inl hf) ho
    obtain ⟨n, rfl⟩ : ∃ n : Nat, i = n := ⟨i.toNat, by omega⟩
    obtain ⟨g, o, cap, rfl, -, -, -⟩ := h.sees.holds (by omega)
    exact only_some W g o cap hs ls n N I _ _ b xs hG h h1 hb hbb (by omega) hp (by omega) (by omega)
end Go.Proofs.YtplcjgpmainbnaaDoor.MkW
