/- MerkleSplits' walk. -/
import Derived.Test.YtplcjgpmainbnaaDoorMkS
import Derived.Test.YtplcjgpmainbnaaDoorMkW
import Derived.Test.YtplcjgpmainbnaaDoorLwA
set_option linter.unusedVariables false
set_option linter.unusedSimpArgs false
namespace Go.Proofs.YtplcjgpmainbnaaDoor.MkW
open Go.RowKit OwnS ShaW QTail
attribute [local go_sem ↓] Kit.execOp_call_slot
attribute [local go_sem] Kit.callSlot_func
theorem in_classB {w : World} {f : FuncId} {args : Array Value} {v : Value} {I : Type} {F : I → World} (hF : ∀ i, Below w.heap.size w (F i)) (hFi : ∀ w', Below w.heap.size w w' → ∃ i, w' = F i) (i : I) (h : Calls Tryd.prog f args (F i) (fun e w' => e = .returned v ∧ Below (F i).heap.size (F i) w')) :
    Calls Tryd.prog f args (F i) (fun e w'' => e = .returned v ∧ ∃ j, w'' = F j) :=
  h.mono fun e w'' ⟨he, hw⟩ => ⟨he, hFi _ ((hF i).trans (hw.mono (hF i).size))⟩
set_option maxRecDepth 100000 in
set_option maxHeartbeats 4000000 in
theorem splits_some (W : World) (g o cap : Nat) (hs : List Value) (ls : List (List Nat)) (i : Int) (hG : Glob W) (h : RowsAt W (.slice (some ⟨g, o, none⟩) ls.length cap) hs ls) (hfew : few ls = true) (hn : 2 ≤ ls.length) (hi0 : -9223372036854775808 ≤ i) (hi1 : i ≤ 9223372036854775807) :
    Calls Tryd.prog 4 #[.slice (some ⟨g, o, none⟩) ls.length cap, .int .i64 i] W fun e w' => e = .returned (.bool true) ∧ Below W.heap.size W w' := by
  obtain ⟨hl20, hl100⟩ := few_of hfew
  obtain ⟨A0, c0, e0, hlc, hcm⟩ := h.sees.form
  injection e0 with e1 e2 e3
  subst e3
  clear e1 e2 A0
  have hF := few_any W _ hs ls h
  rw [hfew] at hF
  have H := Lib.hid (And.intro hG (And.intro h (And.intro hl100 (And.intro hfew hF))))
  clear hG h hl100 hfew hF
  go_enter Tryd.func4, Tryd.ntmps4
  go_wp2_with (go_at_call 10; (with_reducible refine Calls.mono H.out.2.2.2.2 ?_); rintro e w1 ⟨rfl, hb1⟩; have HB1 := Lib.hid hb1; clear hb1)
  have hn' : (2 : Int) ≤ (ls.length : Int) := by omega
  have hl' : (ls.length : Int) ≤ 20 := by omega
  go_loop [5] (fun v => ∃ k f : Nat, v = .int .i64 k ∧ 1 ≤ k ∧ k < ls.length ∧ ls.length ≤ f + k ∧ Hid (Mk.halfGo f k ls.length = Mk.half ls.length)) (fun v => ls.length - (intOf v).toNat)
  case atStart => exact ⟨1, ls.length, rfl, Nat.le_refl _, by omega, by omega, Lib.hid rfl⟩
  case round =>
    obtain ⟨k, f, rfl, h1, h2, h3, h4⟩ := hrel
    have h1' : (1 : Int) ≤ (k : Int) := by omega
    have h2' : (k : Int) < (ls.length : Int) := by omega
    by_cases hk : 2 * k < ls.length
    · have hlt : (k : Int) * 2 < (ls.length : Int) := by omega
      go_wp2_with fail
      go_round
      case rel =>
        refine ⟨2 * k, f - 1, by go_num, by omega, by omega, by omega, ?_⟩
        obtain ⟨f', rfl⟩ : ∃ f', f = f' + 1 := ⟨f - 1, by omega⟩
        have := h4.out
        unfold Mk.halfGo at this
        rw [if_pos hk] at this
        exact this
      case measure => simp [intOf]; omega
    · have hge : ¬ (k : Int) * 2 < (ls.length : Int) := by omega
      have hv : Mk.half ls.length = k := by
        have := h4.out
        rw [Mk.halfGo_stop f k ls.length (by omega)] at this
        exact this.symm
      have HV := Lib.hid hv
      clear hv h4
      have kc : (k : Int) ≤ (cap : Int) := by omega
      have kl : (k : Int) ≤ (ls.length : Int) := by omega
      have k0 : (0 : Int) ≤ (k : Int) := by omega
      have hck : ¬ cap = k := by omega
      have T1 := fun (w : World) (hb : Below W.heap.size W w) => (H.out.2.1.new hb).take (k := k) (c := cap) (by omega) ⟨by omega, Nat.le_refl _⟩
      have T2 := fun (w : World) (hb : Below W.heap.size W w) => (H.out.2.1.new hb).drop (k := k) (by omega) ⟨g, o + k, none⟩ (.inr rfl)
      have l1 : (ls.take k).length = k := by rw [List.length_take]; omega
      have l2 : (ls.drop k).length = ls.length - k := by simp
      have m1 : ∀ l ∈ ls.take k, l.length ≤ 1000000 := fun l hl => by have := H.out.2.2.1 l (List.mem_of_mem_take hl); omega
      have m2 : ∀ l ∈ ls.drop k, l.length ≤ 1000000 := fun l hl => by have := H.out.2.2.1 l (List.mem_of_mem_drop hl); omega
      have m0 : ∀ l ∈ ls, l.length ≤ 1000000 := fun l hl => by have := H.out.2.2.1 l hl; omega
      obtain ⟨a, ha⟩ : ∃ a, a = rootN ((ls.take k).map leafH) := ⟨_, rfl⟩
      obtain ⟨b, hb⟩ : ∃ b, b = rootN ((ls.drop k).map leafH) := ⟨_, rfl⟩
      obtain ⟨D, hD⟩ : ∃ D, D = Mk.nodeH Sha.sum a b := ⟨_, rfl⟩
      have hroot : rootN (ls.map leafH) = D := by
        rw [hD, ha, hb]
        unfold rootN
        rw [Mk.root_split _ _ (by rw [List.length_map]; exact hn), List.length_map, HV.out, List.map_take, List.map_drop]
      have da : Dig a := by rw [ha]; exact dig_root _ _ (Nat.le_refl _) (dig_leaves _)
      have db : Dig b := by rw [hb]; exact dig_root _ _ (Nat.le_refl _) (dig_leaves _)
      have dD : Dig D := by rw [hD]; exact dig_node _ _
      have cA : ∀ w, Below W.heap.size W w → Calls Tryd.prog 14 #[.slice (some ⟨g, o, none⟩) k cap] w (SumPost w a) := fun w hw => by
        rw [ha]; exact Root_any w _ _ _ (H.out.1.new hw) (T1 w hw) (by omega) m1
      have cB : ∀ w, Below W.heap.size W w → Calls Tryd.prog 14 #[.slice (some ⟨g, o + k, none⟩) (ls.length - k) (cap - k)] w (SumPost w b) := fun w hw => by
        rw [hb]; exact Root_any w _ _ _ (H.out.1.new hw) (T2 w hw) (by omega) m2
      have cD : ∀ w, Below W.heap.size W w → Calls Tryd.prog 14 #[.slice (some ⟨g, o, none⟩) ls.length cap] w (SumPost w D) := fun w hw => by
        rw [← hroot]; exact Root_any w _ _ _ (H.out.1.new hw) (H.out.2.1.new hw) (by omega) m0
      have cN : ∀ w, Below W.heap.size W w → Calls Tryd.prog 16 #[digV a, digV b] w (SumPost w D) := fun w hw => by
        rw [hD]; exact node_any w a b (H.out.1.new hw) da db
      have q1 : ∀ w, (binOp .neq 24 (digV D) (digV D)).run Tryd.prog w = .ok (.bool false) w := fun w => by rw [run_neq_dig w D D dD dD, decide_eq_true rfl]; rfl
      have q4 : ∀ op x y w c d, (eqGuard op 24 x y (digV c) (digV d)).run Tryd.prog w = .ok () w := fun op x y w c d => run_guard_dig op x y w c d
      have HC := Lib.hid (And.intro cA (And.intro cB (And.intro cD cN)))
      have HT := Lib.hid (And.intro T1 (And.intro T2 (And.intro l1 (And.intro l2 (And.intro m1 (And.intro m2 m0))))))
      have HD := Lib.hid (And.intro ha (And.intro hb (And.intro hD (And.intro da (And.intro db dD)))))
      clear T1 T2 l1 l2 m1 m2 m0 ha hb hD da db dD hroot cA cB cD cN
      go_upto_region 7 with (first | (go_at_call 14; (with_reducible refine Calls.mono (HC.out.1 _ HB1.out) ?_); rintro e w2 ⟨rfl, hb2⟩) | (refine wpList_store_dig rfl (.tmp 6) (.tmp 33) rfl w2.heap.size rfl a rfl HD.out.2.2.2.1.1 zero32 (by exact heap_alloc_new _ _) zero32_length ?_))
      change (Code.region _ _ _).wp _ _ _ ((w2.alloc (.cells zero32.toArray 24)).setRow w2.heap.size (bytesV a).toArray)
      obtain ⟨x1, hx1, hv1, hB1, hs1⟩ := var_cut w2 a
      rw [← hx1]
      have hW1 : Below W.heap.size W x1 := below_chain (below_chain HB1.out hb2) hB1
      obtain ⟨b1, hq1⟩ : ∃ b1, b1 = w2.heap.size := ⟨_, rfl⟩
      rw [← hq1] at hv1 hs1 ⊢
      have HX1 := Lib.hid (And.intro hv1 (And.intro hW1 hs1))
      clear hv1 hW1 hs1 hb2 hB1 hx1 hq1
      go_upto_region 8 with (first | (go_at_call 14; (with_reducible refine Calls.mono (HC.out.2.1 _ HX1.out.2.1) ?_); rintro e w3 ⟨rfl, hb3⟩) | (refine wpList_store_dig rfl (.tmp 7) (.tmp 37) rfl w3.heap.size rfl b rfl HD.out.2.2.2.2.1.1 zero32 (by exact heap_alloc_new _ _) zero32_length ?_))
      change (Code.region _ _ _).wp _ _ _ ((w3.alloc (.cells zero32.toArray 24)).setRow w3.heap.size (bytesV b).toArray)
      obtain ⟨x2, hx2, hv2, hB2, hs2⟩ := var_cut w3 b
      rw [← hx2]
      have hX2 : Below x1.heap.size x1 x2 := below_chain hb3 hB2
      obtain ⟨b2, hq2⟩ : ∃ b2, b2 = w3.heap.size := ⟨_, rfl⟩
      rw [← hq2] at hv2 hs2 ⊢
      have HX2 := Lib.hid (And.intro ((hX2.block b1 HX1.out.2.2).trans HX1.out.1) (And.intro hv2 (And.intro (below_chain HX1.out.2.1 hX2) (And.intro (Nat.lt_of_lt_of_le HX1.out.2.2 hX2.size) hs2))))
      clear hv2 hs2 hb3 hB2 hx2 hq2 hX2 HX1
      simp only [Act.put]
      refine wp_region_below x2.heap.size (by kernel_rfl) (by kernel_rfl) ?_
      intro I hNI F hF hFi
      have c1 := fun i => in_class (f := 14) hF hFi i (HC.out.2.2.1 _ (below_chain HX2.out.2.2.1 (hF i)))
      have c2 := fun i => in_class (f := 16) hF hFi i (HC.out.2.2.2 _ (below_chain HX2.out.2.2.1 (hF i)))
      have v1 := fun i => rangeAt_whole (((hF i).block b1 HX2.out.2.2.2.1).trans HX2.out.1)
      have v2 := fun i => rangeAt_whole (((hF i).block b2 HX2.out.2.2.2.2).trans HX2.out.2.1)
      have HF := Lib.hid (And.intro c1 (And.intro c2 (And.intro v1 (And.intro v2 hF))))
      clear c1 c2 v1 v2 hF hFi
      repeat (first | (refine wpQuiet_load_dig rfl (.tmp 6) rfl b1 0 rfl a HD.out.2.2.2.1.1 (by rintro _ ⟨n, rfl⟩; exact HF.out.2.2.1 n) ?_; simp only [Act.put, List.setIfInBounds_toArray, List.set_cons_succ, List.set_cons_zero]) | (refine wpQuiet_load_dig rfl (.tmp 7) rfl b2 0 rfl b HD.out.2.2.2.2.1.1 (by rintro _ ⟨n, rfl⟩; exact HF.out.2.2.2.1 n) ?_; simp only [Act.put, List.setIfInBounds_toArray, List.set_cons_succ, List.set_cons_zero]) | go_big_quiet_step ((first | (go_at_call 14; exact HF.out.1 _) | (go_at_call 16; exact HF.out.2.1 _))))
      refine wpQuiet_nil ?_
      intro x3 hw'
      obtain ⟨j, hw''⟩ := hw'
      have HX3 : Hid (x3.heap[b1]? = some (.cells (bytesV a).toArray 24 (0, 0)) ∧ x3.heap[b2]? = some (.cells (bytesV b).toArray 24 (0, 0)) ∧ Below W.heap.size W x3) := by
        have h := HF.out.2.2.2.2 j
        rw [← hw''] at h
        exact ⟨(h.block b1 HX2.out.2.2.2.1).trans HX2.out.1, (h.block b2 HX2.out.2.2.2.2).trans HX2.out.2.1, below_chain HX2.out.2.2.1 h⟩
      clear hw'' j HX2 HF hNI F I HB1
      have HW := Lib.hid (fun (w : World) (hw : Below W.heap.size W w) => awake_any w (H.out.1.new hw))
      by_cases hin : 0 ≤ i ∧ i < (ls.length : Int)
      · obtain ⟨n, rfl⟩ : ∃ n : Nat, i = n := ⟨i.toNat, by omega⟩
        have hnl : n < ls.length := by omega
        have g0 : ¬ (n : Int) < 0 := by omega
        have g1 : ¬ (ls.length : Int) ≤ (n : Int) := by omega
        have q2 : ∀ w, (binOp .eql 24 (digV a) (digV a)).run Tryd.prog w = .ok (.bool true) w := fun w => by rw [run_eql_dig w a a HD.out.2.2.2.1 HD.out.2.2.2.1, decide_eq_true rfl]
        have q3 : ∀ w, (binOp .eql 24 (digV b) (digV b)).run Tryd.prog w = .ok (.bool true) w := fun w => by rw [run_eql_dig w b b HD.out.2.2.2.2.1 HD.out.2.2.2.2.1, decide_eq_true rfl]
        have cP := Prove_any x3 _ hs ls n (H.out.1.new HX3.out.2.2) (H.out.2.1.new HX3.out.2.2) (by omega) HT.out.2.2.2.2.2.2 hnl
        by_cases hnk : n < k
        · obtain ⟨L, hL⟩ : ∃ L, L = proofN n ((ls.take k).map leafH) := ⟨_, rfl⟩
          have hp : proofN n (ls.map leafH) = L ++ [b] := by
            rw [hL, HD.out.2.1]
            unfold proofN
            rw [Mk.proof_left _ _ (by rw [List.length_map]; exact hn) (by rw [List.length_map, HV.out]; exact hnk), List.length_map, HV.out, List.map_take, List.map_drop]
          rw [hp] at cP
          have cQ := fun (w : World) (hw : Below W.heap.size W w) => Prove_any w _ _ (ls.take k) n (H.out.1.new hw) (HT.out.1 w hw) (by rw [HT.out.2.2.1]; omega) HT.out.2.2.2.2.1 (by rw [HT.out.2.2.1]; exact hnk)
          rw [← hL] at cQ
          have HP := Lib.hid (And.intro cP cQ)
          clear cP cQ hL hp
          go_upto_region 16 with (go_at_call 18; (with_reducible refine Calls.mono HP.out.1 ?_); rintro e w4 hlp; obtain ⟨pg, po, pc, rfl, p1, p2, p3, p4, p5, p6⟩ := ProofPost.last hlp; clear hlp; have H4 := Lib.hid (And.intro p2 (And.intro p3 (And.intro p4 (And.intro p5 (And.intro (below_chain HX3.out.2.2 p6) ((p6.block b2 (Array.getElem?_eq_some_iff.1 HX3.out.2.1).1).trans HX3.out.2.1)))))); clear p2 p3 p4 p5 p6)
          go_upto_region 17 with (go_at_call 18; (with_reducible refine Calls.mono (HP.out.2 _ H4.out.2.2.2.2.1) ?_); rintro e w5 ⟨qA, qc, rfl, oq, p7⟩; have H5 := Lib.hid (And.intro (rangeAt_block H4.out.2.1 (p7.block pg H4.out.2.2.2.1)) (And.intro (H4.out.2.2.1.new p7) (And.intro oq.digs (And.intro (below_chain H4.out.2.2.2.2.1 p7) (And.intro (Nat.lt_of_lt_of_le H4.out.2.2.2.1 p7.size) (And.intro ((p7.block b2 (Array.getElem?_eq_some_iff.1 H4.out.2.2.2.2.2).1).trans H4.out.2.2.2.2.2) H4.out.1)))))); clear oq p7 H4)
          have pl : (L.length : Int) ≤ (pc : Int) := by omega
          have pl0 : (0 : Int) ≤ (L.length : Int) := by omega
          have pl1 : (L.length : Int) < (L.length : Int) + 1 := by omega
          have pm : pc ≤ 9223372036854775807 := by have := H5.out.2.2.2.2.2.2; unfold maxLen at this; omega
          have pm1 : (L.length : Int) + 1 ≤ 9223372036854775807 := by omega
          refine wp_region_below w5.heap.size (by kernel_rfl) (by kernel_rfl) ?_
          intro I hNI F hF hFi
          have c1 := fun i => in_classB (f := 19) hF hFi i (digests_same _ _ _ L (H5.out.2.1.new (hF i)) (H5.out.2.2.1.new (hF i)))
          have c2 := fun i => in_classB (f := 11) hF hFi i (HW.out _ (below_chain H5.out.2.2.2.1 (hF i)))
          have v1 := fun i => rangeAt_block H5.out.1 ((hF i).block pg H5.out.2.2.2.2.1)
          have v2 := fun i => rangeAt_whole (((hF i).block b2 (Array.getElem?_eq_some_iff.1 H5.out.2.2.2.2.2.1).1).trans H5.out.2.2.2.2.2.1)
          have HF := Lib.hid (And.intro c1 (And.intro c2 (And.intro v1 (And.intro v2 hF))))
          clear c1 c2 v1 v2 hF hFi
          repeat (first | (refine wpQuiet_load_dig_w rfl (.tmp 102) rfl pg (po + L.length * 32) rfl b HD.out.2.2.2.2.1.1 (by rintro _ ⟨n, rfl⟩; exact HF.out.2.2.1 n) ?_; simp only [Act.put, List.setIfInBounds_toArray, List.set_cons_succ, List.set_cons_zero]) | (refine wpQuiet_load_dig_w rfl (.tmp 7) rfl b2 0 rfl b HD.out.2.2.2.2.1.1 (by rintro _ ⟨n, rfl⟩; exact HF.out.2.2.2.1 n) ?_; simp only [Act.put, List.setIfInBounds_toArray, List.set_cons_succ, List.set_cons_zero]) | go_big_quiet_step ((first | (go_at_call 19; exact HF.out.1 _) | (go_at_call 11; exact HF.out.2.1 _))))
          refine wpQuiet_nil ?_
          intro x6 hw'
          obtain ⟨j, hw''⟩ := hw'
          have hB6 : Below W.heap.size W x6 := by rw [hw'']; exact below_chain H5.out.2.2.2.1 (HF.out.2.2.2.2 j)
          have HB6 := Lib.hid hB6
          clear hB6 hw'' j
          go_wp2_with fail
          go_ret
          exact ⟨rfl, HB6.out⟩
        · have n0 : (k : Int) ≤ (n : Int) := by omega
          obtain ⟨L, hL⟩ : ∃ L, L = proofN (n - k) ((ls.drop k).map leafH) := ⟨_, rfl⟩
          have hp : proofN n (ls.map leafH) = L ++ [a] := by
            rw [hL, HD.out.1]
            unfold proofN
            rw [Mk.proof_right _ _ (by rw [List.length_map]; exact hn) (by rw [List.length_map, HV.out]; exact hnk), List.length_map, HV.out, List.map_take, List.map_drop]
          rw [hp] at cP
          have cQ := fun (w : World) (hw : Below W.heap.size W w) => Prove_any w _ _ (ls.drop k) (n - k) (H.out.1.new hw) (HT.out.2.1 w hw) (by rw [HT.out.2.2.2.1]; omega) HT.out.2.2.2.2.2.1 (by rw [HT.out.2.2.2.1]; omega)
          rw [← hL, show ((n - k : Nat) : Int) = (n : Int) - (k : Int) by omega] at cQ
          have HP := Lib.hid (And.intro cP cQ)
          clear cP cQ hL hp
          go_upto_region 18 with (go_at_call 18; (with_reducible refine Calls.mono HP.out.1 ?_); rintro e w4 hlp; obtain ⟨pg, po, pc, rfl, p1, p2, p3, p4, p5, p6⟩ := ProofPost.last hlp; clear hlp; have H4 := Lib.hid (And.intro p2 (And.intro p3 (And.intro p4 (And.intro p5 (And.intro (below_chain HX3.out.2.2 p6) ((p6.block b1 (Array.getElem?_eq_some_iff.1 HX3.out.1).1).trans HX3.out.1)))))); clear p2 p3 p4 p5 p6)
          go_upto_region 19 with (go_at_call 18; (with_reducible refine Calls.mono (HP.out.2 _ H4.out.2.2.2.2.1) ?_); rintro e w5 ⟨qA, qc, rfl, oq, p7⟩; have H5 := Lib.hid (And.intro (rangeAt_block H4.out.2.1 (p7.block pg H4.out.2.2.2.1)) (And.intro (H4.out.2.2.1.new p7) (And.intro oq.digs (And.intro (below_chain H4.out.2.2.2.2.1 p7) (And.intro (Nat.lt_of_lt_of_le H4.out.2.2.2.1 p7.size) (And.intro ((p7.block b1 (Array.getElem?_eq_some_iff.1 H4.out.2.2.2.2.2).1).trans H4.out.2.2.2.2.2) H4.out.1)))))); clear oq p7 H4)
          have pl : (L.length : Int) ≤ (pc : Int) := by omega
          have pl0 : (0 : Int) ≤ (L.length : Int) := by omega
          have pl1 : (L.length : Int) < (L.length : Int) + 1 := by omega
          have pm : pc ≤ 9223372036854775807 := by have := H5.out.2.2.2.2.2.2; unfold maxLen at this; omega
          have pm1 : (L.length : Int) + 1 ≤ 9223372036854775807 := by omega
          refine wp_region_below w5.heap.size (by kernel_rfl) (by kernel_rfl) ?_
          intro I hNI F hF hFi
          have c1 := fun i => in_classB (f := 19) hF hFi i (digests_same _ _ _ L (H5.out.2.1.new (hF i)) (H5.out.2.2.1.new (hF i)))
          have c2 := fun i => in_classB (f := 11) hF hFi i (HW.out _ (below_chain H5.out.2.2.2.1 (hF i)))
          have v1 := fun i => rangeAt_block H5.out.1 ((hF i).block pg H5.out.2.2.2.2.1)
          have v2 := fun i => rangeAt_whole (((hF i).block b1 (Array.getElem?_eq_some_iff.1 H5.out.2.2.2.2.2.1).1).trans H5.out.2.2.2.2.2.1)
          have HF := Lib.hid (And.intro c1 (And.intro c2 (And.intro v1 (And.intro v2 hF))))
          clear c1 c2 v1 v2 hF hFi
          repeat (first | (refine wpQuiet_load_dig_w rfl (.tmp 136) rfl pg (po + L.length * 32) rfl a HD.out.2.2.2.1.1 (by rintro _ ⟨n, rfl⟩; exact HF.out.2.2.1 n) ?_; simp only [Act.put, List.setIfInBounds_toArray, List.set_cons_succ, List.set_cons_zero]) | (refine wpQuiet_load_dig_w rfl (.tmp 6) rfl b1 0 rfl a HD.out.2.2.2.1.1 (by rintro _ ⟨n, rfl⟩; exact HF.out.2.2.2.1 n) ?_; simp only [Act.put, List.setIfInBounds_toArray, List.set_cons_succ, List.set_cons_zero]) | go_big_quiet_step ((first | (go_at_call 19; exact HF.out.1 _) | (go_at_call 11; exact HF.out.2.1 _))))
          refine wpQuiet_nil ?_
          intro x6 hw'
          obtain ⟨j, hw''⟩ := hw'
          have hB6 : Below W.heap.size W x6 := by rw [hw'']; exact below_chain H5.out.2.2.2.1 (HF.out.2.2.2.2 j)
          have HB6 := Lib.hid hB6
          clear hB6 hw'' j
          go_wp2_with fail
          go_ret
          exact ⟨rfl, HB6.out⟩
      · have cP := Prove_none x3 _ hs ls i (H.out.1.new HX3.out.2.2) (H.out.2.1.new HX3.out.2.2) (by omega) HT.out.2.2.2.2.2.2 (by omega)
        have HP := Lib.hid cP
        clear cP
        have HO := Lib.hid hin
        clear hin
        by_cases h0 : i < 0
        · go_wp2_with (first | (go_at_call 18; (with_reducible refine Calls.mono HP.out ?_); rintro e w4 ⟨rfl, hb4⟩; have H4 := Lib.hid (below_chain HX3.out.2.2 hb4); clear hb4) | (go_at_call 11; (with_reducible refine Calls.mono (HW.out _ H4.out) ?_); rintro e w5 ⟨rfl, hb5⟩))
          go_ret
          exact ⟨rfl, below_chain H4.out hb5⟩
        · have h1 : (ls.length : Int) ≤ i := by have := HO.out; omega
          go_wp2_with (first | (go_at_call 18; (with_reducible refine Calls.mono HP.out ?_); rintro e w4 ⟨rfl, hb4⟩; have H4 := Lib.hid (below_chain HX3.out.2.2 hb4); clear hb4) | (go_at_call 11; (with_reducible refine Calls.mono (HW.out _ H4.out) ?_); rintro e w5 ⟨rfl, hb5⟩))
          go_ret
          exact ⟨rfl, below_chain H4.out hb5⟩
set_option maxRecDepth 100000 in
theorem splits_off (W : World) (v : Value) (hs : List Value) (ls : List (List Nat)) (i : Int) (hG : Glob W) (h : RowsAt W v hs ls) (hf : few ls = false ∨ ls.length < 2) :
    Calls Tryd.prog 4 #[v, .int .i64 i] W fun e w' => e = .returned (.bool true) ∧ Below W.heap.size W w' := by
  obtain ⟨A, c, rfl, hlc, hcm⟩ := h.sees.form
  have hF := few_any W _ hs ls h
  have HW := Lib.hid (fun (w : World) (hw : Below W.heap.size W w) => awake_any w (hG.new hw))
  clear hG
  by_cases hb : few ls = true
  · rw [hb] at hF
    have h2 : (ls.length : Int) < 2 := by rcases hf with hf | hf; rw [hf] at hb; cases hb; omega
    have HF := Lib.hid hF
    clear hF hb hf h
    go_enter Tryd.func4, Tryd.ntmps4
    go_wp2_with (first | (go_at_call 10; (with_reducible refine Calls.mono HF.out ?_); rintro e w1 ⟨rfl, hb1⟩; have HB1 := Lib.hid hb1; clear hb1) | (go_at_call 11; (with_reducible refine Calls.mono (HW.out _ HB1.out) ?_); rintro e w5 ⟨rfl, hb5⟩))
    go_ret
    exact ⟨rfl, below_chain HB1.out hb5⟩
  · rw [show few ls = false by simpa using hb] at hF
    have HF := Lib.hid hF
    clear hF hb hf h
    go_enter Tryd.func4, Tryd.ntmps4
    go_wp2_with (first | (go_at_call 10; (with_reducible refine Calls.mono HF.out ?_); rintro e w1 ⟨rfl, hb1⟩; have HB1 := Lib.hid hb1; clear hb1) | (go_at_call 11; (with_reducible refine Calls.mono (HW.out _ HB1.out) ?_); rintro e w5 ⟨rfl, hb5⟩))
    go_ret
    exact ⟨rfl, below_chain HB1.out hb5⟩
theorem splits_law (W : World) (v : Value) (hs : List Value) (ls : List (List Nat)) (i : Int) (hG : Glob W) (h : RowsAt W v hs ls) (hi0 : -9223372036854775808 ≤ i) (hi1 : i ≤ 9223372036854775807) :
    Calls Tryd.prog 4 #[v, .int .i64 i] W fun e w' => e = .returned (.bool true) ∧ Below W.heap.size W w' := by
  by_cases hb : few ls = true
  · by_cases hl : ls.length < 2
    · exact splits_off W v hs ls i hG h (.inr hl)
    · obtain ⟨g, o, cap, rfl, -, -, -⟩ := h.sees.holds (by omega)
      exact splits_some W g o cap hs ls i hG h hb (by omega) hi0 hi1
  · exact splits_off W v hs ls i hG h (.inl (by simpa using hb))
end Go.Proofs.YtplcjgpmainbnaaDoor.MkW
