/- MerkleRoots' walk. -/
import Derived.Test.YtplcjgpmainbnaaDoorRmD
set_option linter.unusedVariables false
set_option linter.unusedSimpArgs false
namespace Go.Proofs.YtplcjgpmainbnaaDoor.RmW
open Go.RowKit OwnS ShaW MkW RsW QTail
attribute [local go_sem ↓] Kit.execOp_call_slot
attribute [local go_sem] Kit.callSlot_func
structure RootsAt (W w : World) (a b : List Nat) : Prop where
  below : Below W.heap.size W w
  fst : w.heap[W.heap.size]? = some (.cells (bytesV a).toArray 24 (0, 0))
  snd : w.heap[W.heap.size + 1]? = some (.cells (bytesV b).toArray 24 (0, 0))
theorem RootsAt.keep {W w w' : World} {a b : List Nat} (h : RootsAt W w a b) (hb : Below w.heap.size w w') : RootsAt W w' a b :=
  ⟨below_chain h.below hb, (hb.block _ (Array.getElem?_eq_some_iff.1 h.fst).1).trans h.fst, (hb.block _ (Array.getElem?_eq_some_iff.1 h.snd).1).trans h.snd⟩
set_option maxRecDepth 100000 in
set_option maxHeartbeats 4000000 in
theorem roots_law (W : World) (v : Value) (hs : List Value) (ls : List (List Nat)) (a b : List Nat) (hG : Glob W) (h : RowsAt W v hs ls) (ha : Dig a) (hb : Dig b) :
    Calls Tryd.prog 3 #[v, digV a, digV b] W fun e w' => e = .returned (.bool true) ∧ Below W.heap.size W w' := by
  obtain ⟨A, c, rfl, hlc, hcm⟩ := h.sees.form
  obtain ⟨w1, hw1⟩ : ∃ w1, w1 = (W.alloc (.cells (bytesV a).toArray 24)).alloc (.cells (bytesV b).toArray 24) := ⟨_, rfl⟩
  have hR1 : RootsAt W w1 a b := by
    refine ⟨by rw [hw1]; exact ((Below.refl _ _).alloc (Nat.le_refl _) _).alloc (by simp) _, ?_, ?_⟩
    · rw [hw1, Below.heap_alloc _ _ _ (by simp)]; exact heap_alloc_new _ _
    · rw [hw1]
      have := heap_alloc_new (W.alloc (.cells (bytesV a).toArray 24)) (.cells (bytesV b).toArray 24)
      simpa using this
  have hF := few_any w1 _ hs ls (h.new hR1.below)
  have HW := Lib.hid (fun (w : World) (hw : Below W.heap.size W w) => awake_any w (hG.new hw))
  obtain ⟨t, ht⟩ : ∃ t, t = few ls := ⟨_, rfl⟩
  rw [← ht] at hF
  rw [hw1] at hR1 hF
  have H := Lib.hid (And.intro hG (And.intro h (And.intro ha (And.intro hb (And.intro hF (And.intro hR1 ht))))))
  clear hG h ha hb hF ht hR1 hw1 w1
  unfold digV
  cases t with
  | false =>
    go_enter Tryd.func3, Tryd.ntmps3
    go_wp2_with (first | (go_at_call 10; (with_reducible refine Calls.mono H.out.2.2.2.2.1 ?_); rintro e w2 ⟨rfl, hb2⟩; have H2 := Lib.hid (H.out.2.2.2.2.2.1.keep hb2); clear hb2) | (go_at_call 11; (with_reducible refine Calls.mono (HW.out _ H2.out.below) ?_); rintro e w3 ⟨rfl, hb3⟩))
    go_ret
    exact ⟨rfl, below_chain H2.out.below hb3⟩
  | true =>
    obtain ⟨hl20, hl100⟩ := few_of H.out.2.2.2.2.2.2.symm
    have hM : RowsFew ls := ⟨by omega, fun l hl => by have := hl100 l hl; omega⟩
    have HM := Lib.hid hM
    clear hM hl100
    go_enter Tryd.func3, Tryd.ntmps3
    go_wp2_with (first | (go_at_call 10; (with_reducible refine Calls.mono H.out.2.2.2.2.1 ?_); rintro e w2 ⟨rfl, hb2⟩; have H2 := Lib.hid (H.out.2.2.2.2.2.1.keep hb2); clear hb2))
    go_loopw [7] (fun vi wr => ∃ i : Nat, i ≤ ls.length ∧ vi = .int .i64 i ∧ Hid (RootsAt W wr a b)) (fun vi _ => ls.length - (intOf vi).toNat)
    case atStart => exact ⟨0, Nat.zero_le _, rfl, H2⟩
    case round =>
      obtain ⟨i, hi, rfl, hI⟩ := hrel
      by_cases hlt : i < ls.length
      · obtain ⟨l, g, o, cap, A', c', hl', hv, hc, hse⟩ := (H.out.2.1.new hI.out.below).cell hlt
        injection hv with e1 e2 e3
        subst e1 e3
        clear e2
        have hlb := H.out.2.1.byte l (List.mem_of_getElem? hl')
        have hll := HM.out.2 l (List.mem_of_getElem? hl')
        obtain ⟨d, hd⟩ : ∃ d, d = leafH l := ⟨_, rfl⟩
        have dd : Dig d := by rw [hd]; exact dig_leaf _
        have k1 := fun w (hw : Below wr.heap.size wr w) => leaf_any w _ l (H.out.1.new (below_chain hI.out.below hw)) (hse.new hw) hlb (by omega)
        have k2 := fun w (hw : Below wr.heap.size wr w) => rleaf_any w _ l (hse.new hw) hlb (by omega)
        rw [show Sha.sum (0 :: l) = d by rw [hd]; rfl] at k1
        rw [← hd] at k2
        have q1 : ∀ w, (binOp .neq 24 (digV d) (digV d)).run Tryd.prog w = .ok (.bool false) w := fun w => by rw [run_neq_dig w d d dd dd, decide_eq_true rfl]; rfl
        have q4 : ∀ op x y w c d, (eqGuard op 24 x y (digV c) (digV d)).run Tryd.prog w = .ok () w := fun op x y w c d => run_guard_dig op x y w c d
        have hcl := block_lt_of_cell hc
        have HS := Lib.hid (And.intro k1 (And.intro k2 (And.intro hc hcl)))
        clear hl' hse hlb hll k1 k2 hc hcl hd dd
        go_upto_region 6 with fail
        refine wp_region_below wr.heap.size (by kernel_rfl) (by kernel_rfl) ?_
        intro I hNI F hF hFi
        have c1 := fun j => in_class (f := 12) hF hFi j (HS.out.1 _ (hF j))
        have c2 := fun j => in_class (f := 13) hF hFi j (HS.out.2.1 _ (hF j))
        have f0 : ∀ j, (F j).cell? ⟨g, o + i, none⟩ = some (.slice A' l.length c') := fun j => ((hF j).cell HS.out.2.2.2).trans HS.out.2.2.1
        have HFF := Lib.hid (And.intro c1 (And.intro c2 hF))
        clear c1 c2 hF hFi
        repeat (go_big_quiet_step ((first | (go_at_call 12; exact HFF.out.1 _) | (go_at_call 13; exact HFF.out.2.1 _))))
        refine wpQuiet_nil ?_
        rintro w4 ⟨j, hj⟩
        have hI4 : Hid (RootsAt W w4 a b) := by rw [hj]; exact hI.out.keep (HFF.out.2.2 j)
        clear hj HFF f0
        go_wp2_with fail
        go_roundw
        case rel => exact ⟨i + 1, by omega, by go_num, hI4⟩
        case measure => simp [intOf]; omega
      · have hge : ¬ (i : Int) < (ls.length : Int) := by omega
        obtain ⟨R, hR⟩ : ∃ R, R = rootN (ls.map leafH) := ⟨_, rfl⟩
        obtain ⟨D, hD⟩ : ∃ D, D = Mk.nodeH Sha.sum a b := ⟨_, rfl⟩
        have dR : Dig R := by rw [hR]; exact dig_root _ _ (Nat.le_refl _) (dig_leaves _)
        have dD : Dig D := by rw [hD]; exact dig_node _ _
        have k1 := fun w (hw : Below wr.heap.size wr w) => Root_any w _ hs ls (H.out.1.new (below_chain hI.out.below hw)) (H.out.2.1.new (below_chain hI.out.below hw)) HM.out.1 HM.out.2
        have k2 := fun w (hw : Below wr.heap.size wr w) => rroot_of w _ hs ls HM.out (H.out.2.1.new (below_chain hI.out.below hw))
        have k3 := fun w (hw : Below wr.heap.size wr w) => node_any w a b (H.out.1.new (below_chain hI.out.below hw)) H.out.2.2.1 H.out.2.2.2.1
        have k4 := fun w (hw : Below wr.heap.size wr w) => rnode_any w a b H.out.2.2.1 H.out.2.2.2.1
        rw [← hR] at k1 k2
        rw [← hD] at k3 k4
        have q1 : ∀ w, (binOp .eql 24 (digV R) (digV R)).run Tryd.prog w = .ok (.bool true) w := fun w => by rw [run_eql_dig w R R dR dR, decide_eq_true rfl]
        have q2 : ∀ w, (binOp .eql 24 (digV D) (digV D)).run Tryd.prog w = .ok (.bool true) w := fun w => by rw [run_eql_dig w D D dD dD, decide_eq_true rfl]
        have q4 : ∀ op x y w c d, (eqGuard op 24 x y (digV c) (digV d)).run Tryd.prog w = .ok () w := fun op x y w c d => run_guard_dig op x y w c d
        have HS := Lib.hid (And.intro k1 (And.intro k2 (And.intro k3 k4)))
        clear k1 k2 k3 k4 hR hD
        go_upto_region 8 with fail
        refine wp_region_below wr.heap.size (by kernel_rfl) (by kernel_rfl) ?_
        intro I hNI F hF hFi
        have c1 := fun j => in_class (f := 14) hF hFi j (HS.out.1 _ (hF j))
        have c2 := fun j => in_class (f := 15) hF hFi j (HS.out.2.1 _ (hF j))
        have c3 := fun j => in_class (f := 16) hF hFi j (HS.out.2.2.1 _ (hF j))
        have c4 := fun j => in_class (f := 17) hF hFi j (HS.out.2.2.2 _ (hF j))
        have c5 := fun j => in_classB (f := 11) hF hFi j (HW.out _ (below_chain hI.out.below (hF j)))
        have v1 := fun j => rangeAt_whole (((hF j).block _ (Array.getElem?_eq_some_iff.1 hI.out.fst).1).trans hI.out.fst)
        have v2 := fun j => rangeAt_whole (((hF j).block _ (Array.getElem?_eq_some_iff.1 hI.out.snd).1).trans hI.out.snd)
        have HFF := Lib.hid (And.intro c1 (And.intro c2 (And.intro c3 (And.intro c4 (And.intro c5 (And.intro v1 (And.intro v2 hF)))))))
        clear c1 c2 c3 c4 c5 v1 v2 hF hFi
        repeat (first | (refine wpQuiet_load_dig_w rfl (.tmp 4) rfl W.heap.size 0 rfl a H.out.2.2.1.1 (by rintro _ ⟨n, rfl⟩; exact HFF.out.2.2.2.2.2.1 n) ?_; simp only [Act.put, List.setIfInBounds_toArray, List.set_cons_succ, List.set_cons_zero]) | (refine wpQuiet_load_dig_w rfl (.tmp 5) rfl (W.heap.size + 1) 0 rfl b H.out.2.2.2.1.1 (by rintro _ ⟨n, rfl⟩; exact HFF.out.2.2.2.2.2.2.1 n) ?_; simp only [Act.put, List.setIfInBounds_toArray, List.set_cons_succ, List.set_cons_zero]) | go_big_quiet_step ((first | (go_at_call 14; exact HFF.out.1 _) | (go_at_call 15; exact HFF.out.2.1 _) | (go_at_call 16; exact HFF.out.2.2.1 _) | (go_at_call 17; exact HFF.out.2.2.2.1 _) | (go_at_call 11; exact HFF.out.2.2.2.2.1 _))))
        refine wpQuiet_nil ?_
        rintro w4 ⟨j, hj⟩
        have hB4 : Below W.heap.size W w4 := by rw [hj]; exact below_chain hI.out.below (HFF.out.2.2.2.2.2.2.2 j)
        have HB4 := Lib.hid hB4
        clear hB4 hj HFF
        go_wp2_with fail
        go_ret
        exact ⟨rfl, HB4.out⟩
end Go.Proofs.YtplcjgpmainbnaaDoor.RmW
