/- MerkleBack's walk. -/
import Derived.Test.YtplcjgpmainbnaaDoorMkK
import Derived.Test.YtplcjgpmainbnaaDoorLwS
set_option linter.unusedVariables false
set_option linter.unusedSimpArgs false
namespace Go.Proofs.YtplcjgpmainbnaaDoor.MkW
open Go.RowKit OwnS ShaW RevL QTail
attribute [local go_sem ↓] Kit.execOp_call_slot
attribute [local go_sem] Kit.callSlot_func
theorem fold_proof (ds : List (List Nat)) (i : Nat) (x : List Nat) (hx : ds[i]? = some x) : foldN ds.length i (proofN i ds) x = rootN ds := by
  have hi := (List.getElem?_eq_some_iff.1 hx).1
  have := Mk.parts_fold (Sha.sum [2]) (Mk.nodeH Sha.sum) ds.length 0 ds.length i ds x (by omega) (Nat.zero_le _) (Nat.le_refl _) (Nat.zero_le _) hi hx
  simp only [Nat.sub_zero, List.take_length, List.drop_zero] at this
  exact this
theorem proof_length (ds : List (List Nat)) (i : Nat) (hi : i < ds.length) : (partsOf ds.length i).length = (proofN i ds).length := by
  have := Mk.parts_length (Sha.sum [2]) (Mk.nodeH Sha.sum) ds.length 0 ds.length i ds (by omega) (Nat.zero_le _) (Nat.le_refl _) (Nat.zero_le _) hi
  simp only [Nat.sub_zero, List.take_length, List.drop_zero] at this
  exact this
theorem fold_set (ds : List (List Nat)) (i : Nat) (y : List Nat) (hi : i < ds.length) : foldN ds.length i (proofN i ds) y = rootN (ds.set i y) ∧ proofN i (ds.set i y) = proofN i ds := by
  have h1 : proofN i (ds.set i y) = proofN i ds := Mk.proof_set _ _ ds.length ds i y (Nat.le_refl _) hi
  refine ⟨?_, h1⟩
  have := fold_proof (ds.set i y) i y (List.getElem?_set_self hi)
  rwa [List.length_set, h1] at this
set_option maxRecDepth 100000 in
set_option maxHeartbeats 4000000 in
theorem back_some (W : World) (g o cap : Nat) (hs : List Value) (ls : List (List Nat)) (i : Nat) (bv : Value) (b : List Nat) (hG : Glob W) (h : RowsAt W (.slice (some ⟨g, o, none⟩) ls.length cap) hs ls) (hfew : few ls = true) (hb : Sees W 1 bv b.length (bytesV b)) (hbb : ∀ x ∈ b, x < 256) (hbl : b.length ≤ 100) (hi : i < ls.length) :
    Calls Tryd.prog 9 #[.slice (some ⟨g, o, none⟩) ls.length cap, .int .i64 i, bv] W fun e w' => e = .returned (.bool true) ∧ Below W.heap.size W w' := by
  obtain ⟨hl20, hl100⟩ := few_of hfew
  obtain ⟨bA, bc, rfl, -, -⟩ := hb.form
  have hF := few_any W _ hs ls h
  rw [hfew] at hF
  obtain ⟨l0, hl0⟩ : ∃ l0, ls[i]? = some l0 := ⟨_, List.getElem?_eq_getElem hi⟩
  have hll : (ls.map leafH).length = ls.length := List.length_map _
  have m0 : ∀ l ∈ ls, l.length ≤ 1000000 := fun l hl => by have := hl100 l hl; omega
  obtain ⟨P, hP⟩ : ∃ P, P = proofN i (ls.map leafH) := ⟨_, rfl⟩
  obtain ⟨R, hR⟩ : ∃ R, R = rootN (ls.map leafH) := ⟨_, rfl⟩
  obtain ⟨S, hS⟩ : ∃ S, S = rootN ((ls.set i b).map leafH) := ⟨_, rfl⟩
  have dR : Dig R := by rw [hR]; exact dig_root _ _ (Nat.le_refl _) (dig_leaves _)
  have dS : Dig S := by rw [hS]; exact dig_root _ _ (Nat.le_refl _) (dig_leaves _)
  have hpl : (partsOf ls.length i).length = P.length := by
    have := proof_length (ls.map leafH) i (by omega)
    rw [hll] at this
    rw [this, hP]
  have f1 : foldN ls.length i P (leafH l0) = R := by
    have := fold_proof (ls.map leafH) i (leafH l0) (by rw [List.getElem?_map, hl0]; rfl)
    rw [hll] at this
    rw [hP, this, hR]
  have f2 : foldN ls.length i P (leafH b) = S ∧ proofN i ((ls.set i b).map leafH) = P := by
    have := fold_set (ls.map leafH) i (leafH b) (by omega)
    rw [hll, ← List.map_set] at this
    exact ⟨by rw [hP, this.1, hS], by rw [hP, this.2]⟩
  have cP := fun (w : World) (hw : Below W.heap.size W w) => Prove_any w _ hs ls i (hG.new hw) (h.new hw) (by omega) m0 hi
  rw [← hP] at cP
  have cR := fun (w : World) (hw : Below W.heap.size W w) => Root_any w _ hs ls (hG.new hw) (h.new hw) (by omega) m0
  rw [← hR] at cR
  have cN := fun (w : World) (hw : Below W.heap.size W w) => New_any w _ hs ls (hG.new hw) (h.new hw) (by omega) m0
  have H := Lib.hid (And.intro hG (And.intro h (And.intro hF (And.intro cP (And.intro cR cN)))))
  have HL := Lib.hid (And.intro hl0 (And.intro m0 (And.intro hb (And.intro hbb (And.intro hpl (And.intro f1 (And.intro f2 (And.intro dR (And.intro dS (And.intro hR hS))))))))))
  have HW := Lib.hid (fun (w : World) (hw : Below W.heap.size W w) => awake_any w (hG.new hw))
  have hlc := h.sees.form
  obtain ⟨A0, c0, e0, hlc, hcm⟩ := hlc
  injection e0 with e1 e2 e3
  subst e3
  clear e1 e2 A0
  obtain ⟨l0', g', o', cap', A', c', k1, k2, k3, k4⟩ := h.cell hi
  rw [hl0] at k1
  injection k1 with k1
  subst k1
  injection k2 with k21 k2x k23
  injection k21 with k21
  injection k21 with k21 k22
  subst k21 k22 k23
  clear k2x
  have HC := Lib.hid (And.intro k3 k4)
  clear hG h hF cP cR cN m0 hb hbb hpl f1 f2 dR dS hR hS hl0 hll hP k3 k4
  have g0 : ¬ (i : Int) < 0 := by omega
  have g1 : ¬ (ls.length : Int) ≤ (i : Int) := by omega
  have g2 : ¬ (100 : Int) < (b.length : Int) := by omega
  have g3 : (i : Int) < (ls.length : Int) := by omega
  go_enter Tryd.func9, Tryd.ntmps9
  go_upto_region 4 with (first | (go_at_call 10; (with_reducible refine Calls.mono H.out.2.2.1 ?_); rintro e w1 ⟨rfl, hb1⟩; have HB1 := Lib.hid hb1; clear hb1) | (go_at_call 18; (with_reducible refine Calls.mono (H.out.2.2.2.1 _ HB1.out) ?_); rintro e w2 ⟨pA, pc, rfl, ho2, hb2⟩; have H2 := Lib.hid (And.intro ho2 (below_chain HB1.out hb2)); clear ho2 hb2))
  have cell2 : w2.cell? ⟨g, o + i, none⟩ = some (.slice A' l0.length c') := (H2.out.2.cell (block_lt_of_cell HC.out.1)).trans HC.out.1
  have cF1 := fold_some w2 ls.length i _ _ l0 P (by omega) hi (H.out.1.new H2.out.2) (HC.out.2.new H2.out.2) (H.out.2.1.byte l0 (List.mem_of_getElem? HL.out.1)) (by have := HL.out.2.1 l0 (List.mem_of_getElem? HL.out.1); omega) H2.out.1.digs HL.out.2.2.2.2.1
  rw [HL.out.2.2.2.2.2.1] at cF1
  have HF1 := Lib.hid cF1
  clear cF1
  go_upto_region 5 with (first | (go_at_call 21; (with_reducible refine Calls.mono HF1.out ?_); rintro e w3 ⟨rfl, hb3⟩) | (refine wpList_store_dig rfl (.tmp 9) (.tmp 51) rfl w3.heap.size rfl R rfl HL.out.2.2.2.2.2.2.2.1.1 zero32 (by exact heap_alloc_new _ _) zero32_length ?_))
  change Code.wp _ _ _ _ ((w3.alloc (.cells zero32.toArray 24)).setRow w3.heap.size (bytesV R).toArray)
  obtain ⟨x3, hx3, hv3, hB3, hs3⟩ := dig_cut w3 R
  rw [← hx3]
  have hX3 : Below w2.heap.size w2 x3 := below_chain hb3 hB3
  obtain ⟨r1, hq1⟩ : ∃ r1, r1 = w3.heap.size := ⟨_, rfl⟩
  rw [← hq1] at hv3 hs3 ⊢
  have HX3 := Lib.hid (And.intro hv3 (And.intro (below_chain H2.out.2 hX3) (H2.out.1.digs.new hX3)))
  clear hv3 hs3 hb3 hB3 hX3 hx3 hq1
  have cF2 := fold_some x3 ls.length i _ _ b P (by omega) hi (H.out.1.new HX3.out.2.1) (HL.out.2.2.1.new HX3.out.2.1) HL.out.2.2.2.1 (by omega) HX3.out.2.2 HL.out.2.2.2.2.1
  rw [HL.out.2.2.2.2.2.2.1.1] at cF2
  have HF2 := Lib.hid cF2
  clear cF2 HF1
  go_upto_region 6 with (first | (go_at_call 21; (with_reducible refine Calls.mono HF2.out ?_); rintro e w4 ⟨rfl, hb4⟩) | (refine wpList_store_dig rfl (.tmp 11) (.tmp 60) rfl w4.heap.size rfl S rfl HL.out.2.2.2.2.2.2.2.2.1.1 zero32 (by exact heap_alloc_new _ _) zero32_length ?_))
  change Code.wp _ _ _ _ ((w4.alloc (.cells zero32.toArray 24)).setRow w4.heap.size (bytesV S).toArray)
  obtain ⟨x4, hx4, hv4, hB4, hs4⟩ := dig_cut w4 S
  rw [← hx4]
  have hX4 : Below x3.heap.size x3 x4 := below_chain hb4 hB4
  obtain ⟨r2, hq2⟩ : ∃ r2, r2 = w4.heap.size := ⟨_, rfl⟩
  rw [← hq2] at hv4 hs4 ⊢
  have HX4 := Lib.hid (And.intro ((hX4.block r1 (Array.getElem?_eq_some_iff.1 HX3.out.1).1).trans HX3.out.1) (And.intro hv4 (And.intro (below_chain HX3.out.2.1 hX4) (HX3.out.2.2.new hX4))))
  clear hv4 hs4 hb4 hB4 hX4 hx4 hq2 HF2
  have q1 : ∀ w, (binOp .neq 24 (digV R) (digV R)).run Tryd.prog w = .ok (.bool false) w := fun w => by rw [run_neq_dig w R R HL.out.2.2.2.2.2.2.2.1 HL.out.2.2.2.2.2.2.2.1, decide_eq_true rfl]; rfl
  have q2 : ∀ w, (binOp .eql 24 (digV R) (digV R)).run Tryd.prog w = .ok (.bool true) w := fun w => by rw [run_eql_dig w R R HL.out.2.2.2.2.2.2.2.1 HL.out.2.2.2.2.2.2.2.1, decide_eq_true rfl]
  have q3 : ∀ w, (binOp .eql 24 (digV S) (digV S)).run Tryd.prog w = .ok (.bool true) w := fun w => by rw [run_eql_dig w S S HL.out.2.2.2.2.2.2.2.2.1 HL.out.2.2.2.2.2.2.2.2.1, decide_eq_true rfl]
  have q4 : ∀ op x y w c d, (eqGuard op 24 x y (digV c) (digV d)).run Tryd.prog w = .ok () w := fun op x y w c d => run_guard_dig op x y w c d
  go_upto_region 10 with (first | (go_at_call 26; (with_reducible refine Calls.mono (H.out.2.2.2.2.2 _ HX4.out.2.2.1) ?_); rintro e w5 ⟨q, lv, v, rfl, ht5, hb5⟩; have cR5 := ht5.root (H.out.1.new (below_chain HX4.out.2.2.1 hb5)) (by omega); rw [← HL.out.2.2.2.2.2.2.2.2.2.1] at cR5; have H5 := Lib.hid (And.intro ht5 (And.intro hb5 cR5)); clear ht5 hb5 cR5) | (go_at_call 31; (with_reducible refine Calls.mono H5.out.2.2 ?_); rintro e w6 ⟨rfl, hb6⟩; have H6 := Lib.hid (And.intro (H5.out.1.keep hb6) (below_chain H5.out.2.1 hb6)); clear hb6) | (go_at_call 14; (with_reducible refine Calls.mono (H.out.2.2.2.2.1 _ (below_chain HX4.out.2.2.1 H6.out.2)) ?_); rintro e w7 ⟨rfl, hb7⟩; have ht7 := H6.out.1.keep hb7; have hb7' := below_chain H6.out.2 hb7; have cS := ht7.set_in i hi _ b (HL.out.2.2.1.new (below_chain HX4.out.2.2.1 hb7')) HL.out.2.2.2.1 (by omega) (H.out.1.new (below_chain HX4.out.2.2.1 hb7')) (fun _ _ => trivial); have H7 := Lib.hid (And.intro cS (And.intro hb7' ht7.lt)); clear hb7 ht7 hb7' cS) | (go_at_call 28; (with_reducible refine Calls.mono H7.out.1 ?_); rintro e w8 ⟨rfl, ht8, hk8⟩; have hb8 := H7.out.2.1.trans (hk8.below H7.out.2.1.size (fun b hb e => by have := (H7.out.2.2 b e).1; omega)); have cT := ht8.prove_in i (by rw [List.length_set]; exact hi) (H.out.1.new (below_chain HX4.out.2.2.1 hb8)) (by rw [List.length_set]; omega); rw [HL.out.2.2.2.2.2.2.1.2] at cT; have H8 := Lib.hid (And.intro cT (And.intro ht8 hb8)); clear hk8 hb8 ht8 cT) | (go_at_call 30; (with_reducible refine Calls.mono H8.out.1 ?_); rintro e w9 ⟨qA, qc, rfl, ho9, hb9⟩; have H9 := Lib.hid (And.intro ho9 (And.intro (H8.out.2.1.keep hb9) (below_chain H8.out.2.2 hb9))); clear ho9 hb9))
  have hW9 := below_chain HX4.out.2.2.1 H9.out.2.2
  have hr1 := (H9.out.2.2.block r1 (Array.getElem?_eq_some_iff.1 HX4.out.1).1).trans HX4.out.1
  have hr2 := (H9.out.2.2.block r2 (Array.getElem?_eq_some_iff.1 HX4.out.2.1).1).trans HX4.out.2.1
  have hpd := HX4.out.2.2.2.new H9.out.2.2
  have HN := Lib.hid (And.intro hW9 (And.intro hr1 (And.intro hr2 hpd)))
  clear hW9 hr1 hr2 hpd
  refine wp_region_below w9.heap.size (by kernel_rfl) (by kernel_rfl) ?_
  intro I hNI F hF hFi
  have c1 := fun j => in_class (f := 14) hF hFi j (H.out.2.2.2.2.1 _ (below_chain HN.out.1 (hF j)))
  have c2 := fun j => in_class (f := 31) hF hFi j ((H9.out.2.1.keep (hF j)).root (H.out.1.new (below_chain HN.out.1 (hF j))) (by rw [List.length_set]; omega))
  rw [← HL.out.2.2.2.2.2.2.2.2.2.2] at c2
  have c3 := fun j => in_classB (f := 19) hF hFi j (digests_same _ _ _ P (HN.out.2.2.2.new (hF j)) (H9.out.1.digs.new (hF j)))
  have c4 := fun j => in_classB (f := 11) hF hFi j (HW.out _ (below_chain HN.out.1 (hF j)))
  have v1 := fun j => rangeAt_whole (((hF j).block r1 (Array.getElem?_eq_some_iff.1 HN.out.2.1).1).trans HN.out.2.1)
  have v2 := fun j => rangeAt_whole (((hF j).block r2 (Array.getElem?_eq_some_iff.1 HN.out.2.2.1).1).trans HN.out.2.2.1)
  have HF := Lib.hid (And.intro c1 (And.intro c2 (And.intro c3 (And.intro c4 (And.intro v1 (And.intro v2 hF))))))
  clear c1 c2 c3 c4 v1 v2 hF hFi
  repeat (first | (refine wpQuiet_load_dig_w rfl (.tmp 9) rfl r1 0 rfl R HL.out.2.2.2.2.2.2.2.1.1 (by rintro _ ⟨n, rfl⟩; exact HF.out.2.2.2.2.1 n) ?_; simp only [Act.put, List.setIfInBounds_toArray, List.set_cons_succ, List.set_cons_zero]) | (refine wpQuiet_load_dig_w rfl (.tmp 11) rfl r2 0 rfl S HL.out.2.2.2.2.2.2.2.2.1.1 (by rintro _ ⟨n, rfl⟩; exact HF.out.2.2.2.2.2.1 n) ?_; simp only [Act.put, List.setIfInBounds_toArray, List.set_cons_succ, List.set_cons_zero]) | go_big_quiet_step ((first | (go_at_call 14; exact HF.out.1 _) | (go_at_call 31; exact HF.out.2.1 _) | (go_at_call 19; exact HF.out.2.2.1 _) | (go_at_call 11; exact HF.out.2.2.2.1 _))))
  refine wpQuiet_nil ?_
  intro x6 hw'
  obtain ⟨j, hw''⟩ := hw'
  have hB6 : Below W.heap.size W x6 := by rw [hw'']; exact below_chain HN.out.1 (HF.out.2.2.2.2.2.2 j)
  have HB6 := Lib.hid hB6
  clear hB6 hw'' j
  go_wp2_with fail
  go_ret
  exact ⟨rfl, HB6.out⟩
set_option maxRecDepth 100000 in
theorem back_off (W : World) (v : Value) (hs : List Value) (ls : List (List Nat)) (i : Int) (bA : Option Addr) (bl bc : Nat) (hG : Glob W) (h : RowsAt W v hs ls) (hf : few ls = false ∨ 100 < bl ∨ i < 0 ∨ (ls.length : Int) ≤ i) :
    Calls Tryd.prog 9 #[v, .int .i64 i, .slice bA bl bc] W fun e w' => e = .returned (.bool true) ∧ Below W.heap.size W w' := by
  obtain ⟨A, c, rfl, hlc, hcm⟩ := h.sees.form
  have hF := few_any W _ hs ls h
  have HW := Lib.hid (fun (w : World) (hw : Below W.heap.size W w) => awake_any w (hG.new hw))
  clear hG
  by_cases hb : few ls = true
  · rw [hb] at hF
    have HF := Lib.hid hF
    have hf' : 100 < bl ∨ i < 0 ∨ (ls.length : Int) ≤ i := by rcases hf with hf | hf; rw [hf] at hb; cases hb; exact hf
    have HO := Lib.hid hf'
    clear hF hb hf h hf'
    go_enter Tryd.func9, Tryd.ntmps9
    by_cases g1 : 100 < bl
    · have g1' : (100 : Int) < (bl : Int) := by omega
      go_wp2_with (first | (go_at_call 10; (with_reducible refine Calls.mono HF.out ?_); rintro e w1 ⟨rfl, hb1⟩; have HB1 := Lib.hid hb1; clear hb1) | (go_at_call 11; (with_reducible refine Calls.mono (HW.out _ HB1.out) ?_); rintro e w5 ⟨rfl, hb5⟩))
      go_ret
      exact ⟨rfl, below_chain HB1.out hb5⟩
    · have g1' : ¬ (100 : Int) < (bl : Int) := by omega
      by_cases g2 : i < 0
      · go_wp2_with (first | (go_at_call 10; (with_reducible refine Calls.mono HF.out ?_); rintro e w1 ⟨rfl, hb1⟩; have HB1 := Lib.hid hb1; clear hb1) | (go_at_call 11; (with_reducible refine Calls.mono (HW.out _ HB1.out) ?_); rintro e w5 ⟨rfl, hb5⟩))
        go_ret
        exact ⟨rfl, below_chain HB1.out hb5⟩
      · have g3 : (ls.length : Int) ≤ i := by have := HO.out; omega
        go_wp2_with (first | (go_at_call 10; (with_reducible refine Calls.mono HF.out ?_); rintro e w1 ⟨rfl, hb1⟩; have HB1 := Lib.hid hb1; clear hb1) | (go_at_call 11; (with_reducible refine Calls.mono (HW.out _ HB1.out) ?_); rintro e w5 ⟨rfl, hb5⟩))
        go_ret
        exact ⟨rfl, below_chain HB1.out hb5⟩
  · rw [show few ls = false by simpa using hb] at hF
    have HF := Lib.hid hF
    clear hF hb hf h
    go_enter Tryd.func9, Tryd.ntmps9
    go_wp2_with (first | (go_at_call 10; (with_reducible refine Calls.mono HF.out ?_); rintro e w1 ⟨rfl, hb1⟩; have HB1 := Lib.hid hb1; clear hb1) | (go_at_call 11; (with_reducible refine Calls.mono (HW.out _ HB1.out) ?_); rintro e w5 ⟨rfl, hb5⟩))
    go_ret
    exact ⟨rfl, below_chain HB1.out hb5⟩
theorem back_law (W : World) (v bv : Value) (hs : List Value) (ls : List (List Nat)) (i : Int) (b : List Nat) (hG : Glob W) (h : RowsAt W v hs ls) (hb : Sees W 1 bv b.length (bytesV b)) (hbb : ∀ x ∈ b, x < 256) :
    Calls Tryd.prog 9 #[v, .int .i64 i, bv] W fun e w' => e = .returned (.bool true) ∧ Below W.heap.size W w' := by
  obtain ⟨bA, bc, rfl, -, -⟩ := hb.form
  by_cases ho : few ls = false ∨ 100 < b.length ∨ i < 0 ∨ (ls.length : Int) ≤ i
  · exact back_off W v hs ls i bA b.length bc hG h ho
  · have h1 : few ls = true := by cases hf : few ls with | true => rfl | false => exact absurd (.inl hf) ho
    obtain ⟨n, rfl⟩ : ∃ n : Nat, i = n := ⟨i.toNat, by omega⟩
    obtain ⟨g, o, cap, rfl, -, -, -⟩ := h.sees.holds (by omega)
    exact back_some W g o cap hs ls n _ b hG h h1 hb hbb (by omega) (by omega)
end Go.Proofs.YtplcjgpmainbnaaDoor.MkW
