/- The reference's merkle: Half, Leaf, Node, Root, Deep. -/
import Derived.Test.YtplcjgpmainbnaaDoorRsM
import Derived.Test.YtplcjgpmainbnaaDoorLwD
import Derived.Test.YtplcjgpmainbnaaDoorMkX
set_option linter.unusedVariables false
set_option linter.unusedSimpArgs false
namespace Go.Proofs.YtplcjgpmainbnaaDoor.RmW
open Go.RowKit OwnS ShaW MkW RsW QTail
attribute [local go_sem ↓] Kit.execOp_call_slot
attribute [local go_sem] Kit.callSlot_func
set_option maxRecDepth 100000 in
theorem half_all (W : World) (n : Nat) (hn : n ≤ 9223372036854775807) : Calls Tryd.prog 37 #[.int .i64 (n : Int)] W fun e w' => e = .returned (.int .i64 (Mk.half n : Int)) ∧ W = w' := by
  go_enter Tryd.func37, Tryd.ntmps37
  go_wp2_with fail
  go_loop [3] (fun v => ∃ k f : Nat, v = .int .i64 k ∧ 1 ≤ k ∧ k ≤ 9223372036854775807 ∧ n ≤ f + k ∧ Hid (Mk.halfGo f k n = Mk.half n)) (fun v => n - (intOf v).toNat)
  case atStart => exact ⟨1, n, rfl, Nat.le_refl _, by omega, by omega, Lib.hid rfl⟩
  case round =>
    obtain ⟨k, f, rfl, h1, h2, h3, h4⟩ := hrel
    have h1' : (1 : Int) ≤ (k : Int) := by omega
    have h2' : (k : Int) ≤ 9223372036854775807 := by omega
    have hn' : (n : Int) ≤ 9223372036854775807 := by omega
    by_cases h : 2 * k < n
    · have hlt : (k : Int) < (n : Int) - (k : Int) := by omega
      have hk2 : (k : Int) * 2 < 9223372036854775807 := by omega
      go_wp2_with fail
      go_round
      case rel =>
        refine ⟨2 * k, f - 1, by go_num, by omega, by omega, by omega, ?_⟩
        obtain ⟨f', rfl⟩ : ∃ f', f = f' + 1 := ⟨f - 1, by omega⟩
        have := h4.out
        unfold Mk.halfGo at this
        rw [if_pos h] at this
        exact this
      case measure => simp [intOf]; omega
    · have hge : ¬ (k : Int) < (n : Int) - (k : Int) := by omega
      have hv : Mk.half n = k := by
        have := h4.out
        rw [Mk.halfGo_stop f k n (by omega)] at this
        exact this.symm
      have HV := Lib.hid hv
      clear hv
      go_wp2_with fail
      go_ret
      exact ⟨by rw [HV.out]; rfl, rfl⟩
set_option maxRecDepth 100000 in
theorem rleaf_any (W : World) (bv : Value) (b : List Nat) (hb : Sees W 1 bv b.length (bytesV b)) (hbb : ∀ x ∈ b, x < 256) (hn : b.length ≤ 10000000) :
    Calls Tryd.prog 13 #[bv] W (SumPost W (leafH b)) := by
  obtain ⟨Ab, cb, rfl, -, -⟩ := hb.form
  obtain ⟨D, hD⟩ : ∃ D, D = leafH b := ⟨_, rfl⟩
  have hDl : D.length = 32 := by rw [hD]; exact (dig_leaf _).1
  rw [← hD]
  have hs : Sha.sum (0 :: b) = D := by rw [hD]; rfl
  have H := Lib.hid (And.intro hb (And.intro hbb (And.intro hDl hs)))
  clear hb hbb hDl hs hD
  go_enter Tryd.func13, Tryd.ntmps13
  go_upto_region 1 with (fail)
  obtain ⟨w1, hw1⟩ : ∃ w1, w1 = W.alloc (.cells zero32.toArray 24) := ⟨_, rfl⟩
  change (Code.region _ _ _).wp _ _ _ (W.alloc (.cells zero32.toArray 24))
  rw [← hw1]
  have hR : Hid (Res W w1) := by rw [hw1]; exact Res.made W
  clear hw1
  have hc := leafbytes_any w1 _ b (H.out.1.new hR.out.below) hn
  have HC := Lib.hid hc
  clear hc
  go_wp2_with (first | (go_at_call 34; (with_reducible refine Calls.mono HC.out ?_); rintro e w2 ⟨A2, c2, rfl, ho2, hb2⟩; have hR2 : Hid (Res W w2) := hR.out.new' hb2; have hc2 := rsum_any w2 _ (0 :: b) ho2.sees (fun x hx => by rcases List.mem_cons.1 hx with rfl | hx; omega; exact H.out.2.1 x hx) (by simp; omega); rw [H.out.2.2.2] at hc2; have HC2 := Lib.hid hc2; clear ho2 hb2 hc2) | (go_at_call 33; (with_reducible refine Calls.mono HC2.out ?_); rintro e w3 ⟨rfl, hb3⟩; have hR3 : Hid (Res W w3) := hR2.out.new' hb3; clear hb3) | (refine wpList_store_dig rfl (.tmp 2) (.tmp 5) rfl W.heap.size rfl D rfl H.out.2.2.1 zero32 hR3.out.blk zero32_length ?_))
  exact bodyPost_ret (ret_dig (by rfl) _ _ W.heap.size _ (by rfl) (hR3.out.back _) H.out.2.2.1) rfl ⟨rfl, hR3.out.done _⟩
set_option maxRecDepth 100000 in
set_option maxHeartbeats 1000000 in
theorem rnode_any (W : World) (a b : List Nat) (ha : Dig a) (hb : Dig b) : Calls Tryd.prog 17 #[digV a, digV b] W (SumPost W (Mk.nodeH Sha.sum a b)) := by
  obtain ⟨D, hD⟩ : ∃ D, D = Mk.nodeH Sha.sum a b := ⟨_, rfl⟩
  have hDl : D.length = 32 := by rw [hD]; exact (dig_node _ _).1
  rw [← hD]
  have hs : Sha.sum (Mk.nodeB a b) = D := by rw [hD]; rfl
  have hnl : (Mk.nodeB a b).length = 65 := by unfold Mk.nodeB; simp [ha.1, hb.1]
  have hnb : ∀ x ∈ Mk.nodeB a b, x < 256 := fun x hx => by
    rcases List.mem_cons.1 hx with rfl | hx
    · omega
    · rcases List.mem_append.1 hx with hx | hx
      · exact ha.2 x hx
      · exact hb.2 x hx
  have hcall := fun w => nodebytes_any w a b ha hb
  have H := Lib.hid (And.intro hcall (And.intro hDl (And.intro hs (And.intro hnl (And.intro hnb (And.intro ha hb))))))
  clear hcall hDl hs hnl hnb ha hb hD
  unfold digV
  go_enter Tryd.func17, Tryd.ntmps17
  go_upto_region 1 with (fail)
  obtain ⟨w1, hw1⟩ : ∃ w1, w1 = ((W.alloc (.cells (bytesV a).toArray 24)).alloc (.cells (bytesV b).toArray 24)).alloc (.cells zero32.toArray 24) := ⟨_, rfl⟩
  change (Code.region _ _ _).wp _ _ _ (((W.alloc (.cells (bytesV a).toArray 24)).alloc (.cells (bytesV b).toArray 24)).alloc (.cells zero32.toArray 24))
  rw [← hw1]
  obtain ⟨R, hR⟩ : ∃ R, R = W.heap.size + 1 + 1 := ⟨_, rfl⟩
  rw [← hR]
  have hR1 : ResAt W w1 R := by
    rw [hw1, hR]
    refine ⟨(((Below.refl _ _).alloc (Nat.le_refl _) _).alloc (by simp) _).alloc (by simp; omega) _, by omega, by simp, ?_⟩
    have := heap_alloc_new ((W.alloc (.cells (bytesV a).toArray 24)).alloc (.cells (bytesV b).toArray 24)) (.cells zero32.toArray 24)
    simpa using this
  have hA1 : w1.heap[W.heap.size]? = some (.cells (bytesV a).toArray 24 (0, 0)) := by
    rw [hw1, Below.heap_alloc _ _ _ (by simp; omega), Below.heap_alloc _ _ _ (by simp)]
    exact heap_alloc_new _ _
  have hB1 : w1.heap[W.heap.size + 1]? = some (.cells (bytesV b).toArray 24 (0, 0)) := by
    rw [hw1, Below.heap_alloc _ _ _ (by simp)]
    have := heap_alloc_new (W.alloc (.cells (bytesV a).toArray 24)) (.cells (bytesV b).toArray 24)
    simpa using this
  have hrA := rangeAt_whole hA1
  have hrB := rangeAt_whole hB1
  have H1 := Lib.hid (And.intro hR1 (And.intro hrA hrB))
  clear hR1 hA1 hB1 hrA hrB hw1
  go_wp2_with (first | (refine wpList_load_dig rfl (.tmp 2) rfl W.heap.size 0 rfl a H1.out.2.1 H.out.2.2.2.2.2.1.1 ?_) | (refine wpList_load_dig rfl (.tmp 3) rfl (W.heap.size + 1) 0 rfl b H1.out.2.2 H.out.2.2.2.2.2.2.1 ?_) | (go_at_call 39; (with_reducible refine Calls.mono (H.out.1 _) ?_); rintro e w2 ⟨A2, c2, rfl, ho2, hb2⟩; have hR2 : Hid (ResAt W w2 R) := H1.out.1.new' hb2; have hc2 := rsum_any w2 _ (Mk.nodeB a b) ho2.sees H.out.2.2.2.2.1 (by rw [H.out.2.2.2.1]; omega); rw [H.out.2.2.1] at hc2; have HC2 := Lib.hid hc2; clear ho2 hb2 hc2) | (go_at_call 33; (with_reducible refine Calls.mono HC2.out ?_); rintro e w3 ⟨rfl, hb3⟩; have hR3 : Hid (ResAt W w3 R) := hR2.out.new' hb3; clear hb3) | (refine wpList_store_dig rfl (.tmp 4) (.tmp 8) rfl R (by rw [hR]; rfl) D rfl H.out.2.1 zero32 hR3.out.blk zero32_length ?_))
  subst hR
  exact bodyPost_ret (ret_dig (by rfl) _ _ (W.heap.size + 1 + 1) _ (by rfl) (hR3.out.back _) H.out.2.1) rfl ⟨rfl, hR3.out.done _⟩
end Go.Proofs.YtplcjgpmainbnaaDoor.RmW
