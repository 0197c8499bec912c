/- The reference's merkle: Fold. -/
import Derived.Test.YtplcjgpmainbnaaDoorRmC
import Derived.Test.YtplcjgpmainbnaaDoorLwK
set_option linter.unusedVariables false
set_option linter.unusedSimpArgs false
namespace Go.Proofs.YtplcjgpmainbnaaDoor.RmW
open Go.RowKit OwnS ShaW MkW RsW QTail
attribute [local go_sem ↓] Kit.execOp_call_slot
attribute [local go_sem] Kit.callSlot_func
def rfold (f n i : Nat) (x : List Nat) (ps : List (List Nat)) : List Nat := Mk.refFold (Mk.nodeH Sha.sum) zeroD f n i x ps
theorem rfold_dig (f n i : Nat) (x : List Nat) (ps : List (List Nat)) (hx : Dig x) : Dig (rfold f n i x ps) := by
  unfold rfold
  cases f with
  | zero => exact hx
  | succ f =>
    unfold Mk.refFold
    split
    · exact hx
    · split <;> exact dig_node _ _
theorem rangeAt_new {W w : World} {g o : Nat} {D : List Nat} (h : W.rangeAt g o (bytesV D)) (hb : Below W.heap.size W w) : w.rangeAt g o (bytesV D) := fun j u hj => (hb.cell (p := ⟨g, o + j, none⟩) (block_lt_of_cell (a := ⟨g, o + j, none⟩) (h j u hj))).trans (h j u hj)
set_option maxRecDepth 100000 in
theorem rfold_few (W : World) (n : Nat) (i : Int) (bv p : Value) (b : List Nat) (hn : n < 2) (hb : Sees W 1 bv b.length (bytesV b)) (hbb : ∀ x ∈ b, x < 256) (hbn : b.length ≤ 10000000) : Calls Tryd.prog 23 #[.int .i64 n, .int .i64 i, bv, p] W (SumPost W (leafH b)) := by
  obtain ⟨Ab, cb, rfl, -, -⟩ := hb.form
  obtain ⟨D, hD⟩ : ∃ D, D = leafH b := ⟨_, rfl⟩
  have hDl : D.length = 32 := by rw [hD]; exact (dig_leaf _).1
  rw [← hD]
  have hc := fun w hw => rleaf_any w _ b (Sees.new hb (w' := w) hw) hbb hbn
  rw [← hD] at hc
  have H := Lib.hid (And.intro hc hDl)
  have h2 : (n : Int) < 2 := by omega
  clear hc hDl hD hb hbb
  go_enter Tryd.func23, Tryd.ntmps23
  go_upto_region 1 with (fail)
  obtain ⟨w1, hw1⟩ : ∃ w1, w1 = W.alloc (.cells zero32.toArray 24) := ⟨_, rfl⟩
  change Code.wp _ _ _ _ (W.alloc (.cells zero32.toArray 24))
  rw [← hw1]
  have hR : Hid (Res W w1) := by rw [hw1]; exact Res.made W
  clear hw1
  go_wp2_with (first | (go_at_call 13; (with_reducible refine Calls.mono (H.out.1 _ hR.out.below) ?_); rintro e w3 ⟨rfl, hb3⟩; have hR3 : Hid (Res W w3) := hR.out.new' hb3; clear hb3) | (refine wpList_store_dig rfl (.tmp 8) (.tmp 14) rfl W.heap.size rfl D rfl H.out.2 zero32 hR3.out.blk zero32_length ?_))
  exact bodyPost_ret (ret_dig (by rfl) _ _ W.heap.size _ (by rfl) (hR3.out.back _) H.out.2) rfl ⟨rfl, hR3.out.done _⟩
set_option maxRecDepth 100000 in
set_option maxHeartbeats 4000000 in
theorem rfold_left (f : Nat) (b : List Nat) (bv : Value) (ih : ∀ (W : World) (p : Value) (n i : Nat) (ps : List (List Nat)), n ≤ f → n ≤ 9223372036854775807 → i ≤ 9223372036854775807 → Sees W 1 bv b.length (bytesV b) → DigsAt W p ps → (Mk.ways f n i).length = ps.length → Calls Tryd.prog 23 #[.int .i64 n, .int .i64 i, bv, p] W (SumPost W (rfold f n i (leafH b) ps)))
    (W : World) (p : Value) (n i : Nat) (ps : List (List Nat)) (hf : n ≤ f + 1) (hn : n ≤ 9223372036854775807) (hi : i ≤ 9223372036854775807) (hb : Sees W 1 bv b.length (bytesV b)) (hp : DigsAt W p ps) (hl : (Mk.ways (f + 1) n i).length = ps.length) (h2 : 2 ≤ n) (hik : i < Mk.half n) :
    Calls Tryd.prog 23 #[.int .i64 n, .int .i64 i, bv, p] W (SumPost W (rfold (f + 1) n i (leafH b) ps)) := by
  obtain ⟨Ab, cb, rfl, -, -⟩ := hb.form
  have hk1 := Mk.half_pos n
  have hk2 := Mk.half_lt h2
  have HH := fun w => half_all w n hn
  have hsp : rfold (f + 1) n i (leafH b) ps = Mk.nodeH Sha.sum (rfold f (Mk.half n) i (leafH b) (ps.take (ps.length - 1))) (ps.getD (ps.length - 1) zeroD) := by
    unfold rfold
    conv => lhs; unfold Mk.refFold
    rw [if_neg (by omega), if_pos hik]
  unfold Mk.ways at hl
  rw [if_pos h2, if_pos hik, List.length_cons] at hl
  obtain ⟨k, hk⟩ : ∃ k, k = Mk.half n := ⟨_, rfl⟩
  rw [← hk] at hk1 hk2 hsp HH hik hl
  obtain ⟨L, hL⟩ : ∃ L, L = ps.length := ⟨_, rfl⟩
  obtain ⟨m, hm⟩ : ∃ m, L = m + 1 := ⟨L - 1, by omega⟩
  obtain ⟨q, g, o, cap, hq, dq, rfl, hcap, hqr⟩ := hp.cell (i := m) (by omega)
  have hqm := hp.sees.form
  obtain ⟨A0, c0, e0, hc1, hc2⟩ := hqm
  injection e0 with e01 e02 e03
  subst e01 e03
  clear e02
  have htk : (ps.take m).length = m := by rw [List.length_take]; omega
  rw [← hL, show L - 1 = m by omega, List.getD_eq_getElem?_getD, hq, Option.getD_some] at hsp
  have c1 : ∀ w, Below W.heap.size W w → Calls Tryd.prog 23 #[.int .i64 k, .int .i64 i, .slice Ab b.length cb, .slice (some ⟨g, o, none⟩) m cap] w (SumPost w (rfold f k i (leafH b) (ps.take m))) := fun w hw =>
    ih w _ k i (ps.take m) (by omega) (by omega) hi (hb.new hw) ((hp.new hw).take (by omega) cap ⟨by omega, Nat.le_refl _⟩) (by omega)
  obtain ⟨x, hx⟩ : ∃ x, x = rfold f k i (leafH b) (ps.take m) := ⟨_, rfl⟩
  have dx : Dig x := by rw [hx]; exact rfold_dig _ _ _ _ _ (dig_leaf _)
  rw [← hx] at c1 hsp
  obtain ⟨D, hD⟩ : ∃ D, D = Mk.nodeH Sha.sum x q := ⟨_, rfl⟩
  have dD : D.length = 32 := by rw [hD]; exact (dig_node _ _).1
  have c2 := fun w => rnode_any w x q dx dq
  rw [← hD] at c2 hsp
  rw [hsp, ← hL]
  have hmL : (L : Int) - 1 = (m : Int) := by omega
  have hmi : (m : Int) < (L : Int) := by omega
  have hmc : (m : Int) ≤ (cap : Int) := by omega
  have hmn : m < L := by omega
  have hLm : (L : Int) ≤ 9223372036854775807 := by unfold maxLen at hc2; omega
  have H := Lib.hid (And.intro c1 (And.intro c2 (And.intro HH (And.intro dD (And.intro dq hqr)))))
  clear c1 c2 HH dD dq hqr hsp hD hx dx ih hp hb hq hl hk htk hc1 hc2 hcap hL hm
  have hge : ¬ (n : Int) < 2 := by omega
  have i4 : (i : Int) < (k : Int) := by omega
  go_enter Tryd.func23, Tryd.ntmps23
  go_upto_region 1 with (fail)
  obtain ⟨w1, hw1⟩ : ∃ w1, w1 = W.alloc (.cells zero32.toArray 24) := ⟨_, rfl⟩
  change Code.wp _ _ _ _ (W.alloc (.cells zero32.toArray 24))
  rw [← hw1]
  have hR : Hid (Res W w1) := by rw [hw1]; exact Res.made W
  clear hw1
  go_upto_region 6 with (go_at_call 37; (with_reducible refine Calls.mono (H.out.2.2.1 _) ?_); rintro e w' ⟨rfl, rfl⟩)
  have hc1 := fun (I : Type) (F : I → World) (hF : ∀ i, Below w1.heap.size w1 (F i)) (hFi : ∀ w', Below w1.heap.size w1 w' → ∃ i, w' = F i) (i : I) =>
    in_class (f := 23) hF hFi i (H.out.1 (F i) (below_chain hR.out.below (hF i)))
  have hc2 := fun (I : Type) (F : I → World) (hF : ∀ i, Below w1.heap.size w1 (F i)) (hFi : ∀ w', Below w1.heap.size w1 w' → ∃ i, w' = F i) (i : I) =>
    in_class (f := 17) hF hFi i (H.out.2.1 (F i))
  have hqv := fun (w' : World) (hw : Below w1.heap.size w1 w') => (rangeAt_new H.out.2.2.2.2.2 (below_chain hR.out.below hw))
  have HC := Lib.hid (And.intro hc1 (And.intro hc2 hqv))
  clear hc1 hc2 hqv
  refine QTail.wp_region_below_tail 12 w1.heap.size (by kernel_rfl) (by kernel_rfl) ?_
  intro I hNI F hF hFi
  have HF := Lib.hid (And.intro (HC.out.1 I F hF hFi) (And.intro (HC.out.2.1 I F hF hFi) (And.intro (fun i => HC.out.2.2 _ (hF i)) hF)))
  clear hF hFi
  simp only [List.take_succ_cons, List.take_zero, List.drop_succ_cons, List.drop_zero]
  repeat (first | (refine wpQuiet_load_dig_w rfl (.tmp 32) rfl g (o + m * 32) rfl q H.out.2.2.2.2.1.1 (by rintro _ ⟨n, rfl⟩; exact HF.out.2.2.1 n) ?_; simp only [Act.put, List.setIfInBounds_toArray, List.set_cons_succ, List.set_cons_zero]) | go_big_quiet_step ((first | (go_at_call 23; exact HF.out.1 _) | (go_at_call 17; exact HF.out.2.1 _))))
  refine wpQuiet_nil ?_
  intro w4 hw'
  obtain ⟨j, hw''⟩ := hw'
  have hR4 : Hid (Res W w4) := by rw [hw'']; exact hR.out.new' (HF.out.2.2.2 j)
  clear hw''
  go_wp2_with (refine wpList_store_dig rfl (.tmp 8) (.tmp 34) rfl W.heap.size rfl D rfl H.out.2.2.2.1 zero32 hR4.out.blk zero32_length ?_)
  exact bodyPost_ret (ret_dig (by rfl) _ _ W.heap.size _ (by rfl) (hR4.out.back _) H.out.2.2.2.1) rfl ⟨rfl, hR4.out.done _⟩
set_option maxRecDepth 100000 in
set_option maxHeartbeats 4000000 in
theorem rfold_right (f : Nat) (b : List Nat) (bv : Value) (ih : ∀ (W : World) (p : Value) (n i : Nat) (ps : List (List Nat)), n ≤ f → n ≤ 9223372036854775807 → i ≤ 9223372036854775807 → Sees W 1 bv b.length (bytesV b) → DigsAt W p ps → (Mk.ways f n i).length = ps.length → Calls Tryd.prog 23 #[.int .i64 n, .int .i64 i, bv, p] W (SumPost W (rfold f n i (leafH b) ps)))
    (W : World) (p : Value) (n i : Nat) (ps : List (List Nat)) (hf : n ≤ f + 1) (hn : n ≤ 9223372036854775807) (hi : i ≤ 9223372036854775807) (hb : Sees W 1 bv b.length (bytesV b)) (hp : DigsAt W p ps) (hl : (Mk.ways (f + 1) n i).length = ps.length) (h2 : 2 ≤ n) (hik : ¬ i < Mk.half n) :
    Calls Tryd.prog 23 #[.int .i64 n, .int .i64 i, bv, p] W (SumPost W (rfold (f + 1) n i (leafH b) ps)) := by
  obtain ⟨Ab, cb, rfl, -, -⟩ := hb.form
  have hk1 := Mk.half_pos n
  have hk2 := Mk.half_lt h2
  have HH := fun w => half_all w n hn
  have hsp : rfold (f + 1) n i (leafH b) ps = Mk.nodeH Sha.sum (ps.getD (ps.length - 1) zeroD) (rfold f (n - Mk.half n) (i - Mk.half n) (leafH b) (ps.take (ps.length - 1))) := by
    unfold rfold
    conv => lhs; unfold Mk.refFold
    rw [if_neg (by omega), if_neg hik]
  unfold Mk.ways at hl
  rw [if_pos h2, if_neg hik, List.length_cons] at hl
  obtain ⟨k, hk⟩ : ∃ k, k = Mk.half n := ⟨_, rfl⟩
  rw [← hk] at hk1 hk2 hsp HH hik hl
  obtain ⟨L, hL⟩ : ∃ L, L = ps.length := ⟨_, rfl⟩
  obtain ⟨m, hm⟩ : ∃ m, L = m + 1 := ⟨L - 1, by omega⟩
  obtain ⟨q, g, o, cap, hq, dq, rfl, hcap, hqr⟩ := hp.cell (i := m) (by omega)
  have hqm := hp.sees.form
  obtain ⟨A0, c0, e0, hc1, hc2⟩ := hqm
  injection e0 with e01 e02 e03
  subst e01 e03
  clear e02
  have hx1 : ((n - k : Nat) : Int) = (n : Int) - (k : Int) := by omega
  have hx2 : ((i - k : Nat) : Int) = (i : Int) - (k : Int) := by omega
  have htk : (ps.take m).length = m := by rw [List.length_take]; omega
  rw [← hL, show L - 1 = m by omega, List.getD_eq_getElem?_getD, hq, Option.getD_some] at hsp
  have c1 : ∀ w, Below W.heap.size W w → Calls Tryd.prog 23 #[.int .i64 ((n : Int) - (k : Int)), .int .i64 ((i : Int) - (k : Int)), .slice Ab b.length cb, .slice (some ⟨g, o, none⟩) m cap] w (SumPost w (rfold f (n - k) (i - k) (leafH b) (ps.take m))) := fun w hw => by
    rw [← hx1, ← hx2]
    exact ih w _ (n - k) (i - k) (ps.take m) (by omega) (by omega) (by omega) (hb.new hw) ((hp.new hw).take (by omega) cap ⟨by omega, Nat.le_refl _⟩) (by omega)
  obtain ⟨x, hx⟩ : ∃ x, x = rfold f (n - k) (i - k) (leafH b) (ps.take m) := ⟨_, rfl⟩
  have dx : Dig x := by rw [hx]; exact rfold_dig _ _ _ _ _ (dig_leaf _)
  rw [← hx] at c1 hsp
  obtain ⟨D, hD⟩ : ∃ D, D = Mk.nodeH Sha.sum q x := ⟨_, rfl⟩
  have dD : D.length = 32 := by rw [hD]; exact (dig_node _ _).1
  have c2 := fun w => rnode_any w q x dq dx
  rw [← hD] at c2 hsp
  rw [hsp, ← hL]
  have hmL : (L : Int) - 1 = (m : Int) := by omega
  have hmi : (m : Int) < (L : Int) := by omega
  have hmc : (m : Int) ≤ (cap : Int) := by omega
  have hmn : m < L := by omega
  have hLm : (L : Int) ≤ 9223372036854775807 := by unfold maxLen at hc2; omega
  have H := Lib.hid (And.intro c1 (And.intro c2 (And.intro HH (And.intro dD (And.intro dq hqr)))))
  clear c1 c2 HH dD dq hqr hsp hD hx dx ih hp hb hq hl hk htk hc1 hc2 hcap hL hm hx1 hx2
  have hge : ¬ (n : Int) < 2 := by omega
  have i4 : ¬ (i : Int) < (k : Int) := by omega
  have j1 : (0 : Int) ≤ (k : Int) := by omega
  have j2 : (k : Int) ≤ (n : Int) := by omega
  have j3 : (n : Int) ≤ 9223372036854775807 := by omega
  have j4 : (i : Int) ≤ 9223372036854775807 := by omega
  go_enter Tryd.func23, Tryd.ntmps23
  go_upto_region 1 with (fail)
  obtain ⟨w1, hw1⟩ : ∃ w1, w1 = W.alloc (.cells zero32.toArray 24) := ⟨_, rfl⟩
  change Code.wp _ _ _ _ (W.alloc (.cells zero32.toArray 24))
  rw [← hw1]
  have hR : Hid (Res W w1) := by rw [hw1]; exact Res.made W
  clear hw1
  go_upto_region 7 with (go_at_call 37; (with_reducible refine Calls.mono (H.out.2.2.1 _) ?_); rintro e w' ⟨rfl, rfl⟩)
  have hc1 := fun (I : Type) (F : I → World) (hF : ∀ i, Below w1.heap.size w1 (F i)) (hFi : ∀ w', Below w1.heap.size w1 w' → ∃ i, w' = F i) (i : I) =>
    in_class (f := 23) hF hFi i (H.out.1 (F i) (below_chain hR.out.below (hF i)))
  have hc2 := fun (I : Type) (F : I → World) (hF : ∀ i, Below w1.heap.size w1 (F i)) (hFi : ∀ w', Below w1.heap.size w1 w' → ∃ i, w' = F i) (i : I) =>
    in_class (f := 17) hF hFi i (H.out.2.1 (F i))
  have hqv := fun (w' : World) (hw : Below w1.heap.size w1 w') => (rangeAt_new H.out.2.2.2.2.2 (below_chain hR.out.below hw))
  have HC := Lib.hid (And.intro hc1 (And.intro hc2 hqv))
  clear hc1 hc2 hqv
  refine QTail.wp_region_below_tail 16 w1.heap.size (by kernel_rfl) (by kernel_rfl) ?_
  intro I hNI F hF hFi
  have HF := Lib.hid (And.intro (HC.out.1 I F hF hFi) (And.intro (HC.out.2.1 I F hF hFi) (And.intro (fun i => HC.out.2.2 _ (hF i)) hF)))
  clear hF hFi
  simp only [List.take_succ_cons, List.take_zero, List.drop_succ_cons, List.drop_zero]
  repeat (first | (refine wpQuiet_load_dig_w rfl (.tmp 37) rfl g (o + m * 32) rfl q H.out.2.2.2.2.1.1 (by rintro _ ⟨n, rfl⟩; exact HF.out.2.2.1 n) ?_; simp only [Act.put, List.setIfInBounds_toArray, List.set_cons_succ, List.set_cons_zero]) | go_big_quiet_step ((first | (go_at_call 23; exact HF.out.1 _) | (go_at_call 17; exact HF.out.2.1 _))))
  refine wpQuiet_nil ?_
  intro w4 hw'
  obtain ⟨j, hw''⟩ := hw'
  have hR4 : Hid (Res W w4) := by rw [hw'']; exact hR.out.new' (HF.out.2.2.2 j)
  clear hw''
  go_wp2_with (refine wpList_store_dig rfl (.tmp 8) (.tmp 50) rfl W.heap.size rfl D rfl H.out.2.2.2.1 zero32 hR4.out.blk zero32_length ?_)
  exact bodyPost_ret (ret_dig (by rfl) _ _ W.heap.size _ (by rfl) (hR4.out.back _) H.out.2.2.2.1) rfl ⟨rfl, hR4.out.done _⟩
/-- The reference's fold. -/
theorem rfold_any (b : List Nat) (bv : Value) (hbb : ∀ x ∈ b, x < 256) (hbn : b.length ≤ 10000000) : ∀ (f : Nat) (W : World) (p : Value) (n i : Nat) (ps : List (List Nat)), n ≤ f → n ≤ 9223372036854775807 → i ≤ 9223372036854775807 → Sees W 1 bv b.length (bytesV b) → DigsAt W p ps → (Mk.ways f n i).length = ps.length → Calls Tryd.prog 23 #[.int .i64 n, .int .i64 i, bv, p] W (SumPost W (rfold f n i (leafH b) ps)) := by
  intro f
  induction f with
  | zero =>
    intro W p n i ps hf hn hi hb hp hl
    exact rfold_few W n i bv p b (by omega) hb hbb hbn
  | succ f ih =>
    intro W p n i ps hf hn hi hb hp hl
    by_cases h2 : 2 ≤ n
    · by_cases hik : i < Mk.half n
      · exact rfold_left f b bv ih W p n i ps hf hn hi hb hp hl h2 hik
      · exact rfold_right f b bv ih W p n i ps hf hn hi hb hp hl h2 hik
    · have e : rfold (f + 1) n i (leafH b) ps = leafH b := by unfold rfold Mk.refFold; rw [if_pos (by omega)]
      rw [e]
      exact rfold_few W n i bv p b (by omega) hb hbb hbn
end Go.Proofs.YtplcjgpmainbnaaDoor.RmW
