/- sha.Sum. -/
import Derived.Test.YtplcjgpmainbnaaDoorShS
set_option linter.unusedVariables false
set_option linter.unusedSimpArgs false
namespace Go.Proofs.YtplcjgpmainbnaaDoor.ShaW
open Go.RowKit Sha Bits OwnS
attribute [local go_sem ↓] Kit.execOp_call_slot
attribute [local go_sem] Kit.callSlot_func
theorem sum_length (b : List Nat) : (Sha.sum b).length = 32 := rfl
theorem sum_byte (b : List Nat) : ∀ x ∈ Sha.sum b, x < 256 := fun x hx => by
  unfold Sha.sum out at hx
  simp only [List.mem_flatMap, List.mem_map] at hx
  obtain ⟨y, -, k, -, rfl⟩ := hx
  exact Nat.mod_lt _ (by omega)
/-- The value of a digest, in a block of its own. -/
theorem zero32 : (List.replicate 32 (.int .u8 0 : Value)).toArray.size = 32 := rfl
theorem digV_ok (l : List Nat) (h : l.length = 32) : (Tryd.prog.info? 24).map (·.size) = some (bytesV l).toArray.size ∧ (bytesV l).toArray.all (·.oneCell') = true ∧ (bytesV l).toArray.size = 32 := by
  have e : (bytesV l).toArray.size = 32 := by rw [List.size_toArray, bytesV_length, h]
  exact ⟨by rw [e]; kernel_rfl, all_oneCell_toArray (bytesV_one _), e⟩
set_option maxRecDepth 100000 in
set_option maxHeartbeats 1000000 in
theorem sum_any (W : World) (bv : Value) (b : List Nat) (hG : Glob W) (hb : Sees W 1 bv b.length (bytesV b)) (hbb : ∀ x ∈ b, x < 256) (hn : b.length ≤ 100000000) :
    Calls Tryd.prog 32 #[bv] W (SumPost W (Sha.sum b)) := by
  obtain ⟨Ab, cb, rfl, -, -⟩ := hb.form
  have H := Lib.hid (And.intro hG (And.intro hb hbb))
  clear hG hb hbb
  go_enter Tryd.func32, Tryd.ntmps32
  go_upto_region 1 with (fail)
  obtain ⟨w1, hw1⟩ : ∃ w1, w1 = W.alloc (.cells (List.replicate 32 (.int .u8 0 : Value)).toArray 24) := ⟨_, rfl⟩
  change (Code.region _ _ _).wp _ _ _ (W.alloc (.cells (List.replicate 32 (.int .u8 0 : Value)).toArray 24))
  rw [← hw1]
  have hb1 : Below W.heap.size W w1 := by rw [hw1]; exact (Below.refl _ _).alloc (Nat.le_refl _) _
  have hs1 : w1.heap.size = W.heap.size + 1 := by rw [hw1]; simp
  have hr1 : w1.heap[W.heap.size]? = some (.cells (List.replicate 32 (.int .u8 0 : Value)).toArray 24 (0, 0)) := by rw [hw1]; exact heap_alloc_new _ _
  have H1 := Lib.hid (And.intro hb1 (And.intro hs1 hr1))
  have HN := Lib.hid (new_any w1 (H.out.1.new hb1))
  clear hw1 hb1 hs1 hr1
  go_upto_region 2 with (go_at_call 47; (with_reducible refine Calls.mono HN.out ?_); rintro e w2 ⟨rfl, h2, hb2⟩; have H2 := Lib.hid (And.intro h2 hb2); clear h2 hb2)
  obtain ⟨E, hE⟩ : ∃ E, E = w1.heap.size := ⟨_, rfl⟩
  rw [← hE]
  have hEs : E = W.heap.size + 1 := by rw [hE]; exact H1.out.2.1
  have hb12 : Below W.heap.size W w2 := H1.out.1.trans (H2.out.2.mono H1.out.1.size)
  have hEz : E < w2.heap.size := (Array.getElem?_eq_some_iff.1 (by have := H2.out.1.blk; rw [← hE] at this; exact this)).1
  have hh2 : HashAt w2 E E (.slice none 0 0) st0 [] 0 := by rw [hE]; exact H2.out.1
  have hw := write_any w2 E E (.slice none 0 0) st0 [] 0 (.slice Ab b.length cb) b (H.out.1.new hb12) ⟨Nat.le_trans H.out.1.top (by omega), by omega, hEz⟩ hh2 (H.out.2.1.new hb12) (fun k hk h0 => by have := H.out.2.1.lt hk h0; omega) H.out.2.2 (by omega) (by omega) (by simp)
  have HW := Lib.hid (And.intro hw (And.intro hEs (And.intro hb12 hE)))
  clear hw hEs hb12 hE hh2
  go_upto_region 3 with (go_at_call 48; (with_reducible refine Calls.mono HW.out.1 ?_); rintro e w3 ⟨rfl, v3, h3, hk3, hv3⟩; have H3 := Lib.hid (And.intro h3 (And.intro hk3 hv3)); clear h3 hk3 hv3)
  have hb3 : Below W.heap.size W w3 := HW.out.2.2.1.trans (H3.out.2.1.below HW.out.2.2.1.size fun k hk hS => by
    rcases hS with h | h
    · have := HW.out.2.1; omega
    · cases h)
  have hr3 : w3.heap[W.heap.size]? = some (.cells (List.replicate 32 (.int .u8 0 : Value)).toArray 24 (0, 0)) := by
    have e1 : w2.heap[W.heap.size]? = w1.heap[W.heap.size]? := H2.out.2.block _ (by have := H1.out.2.1; omega)
    rw [H3.out.2.1.block _ (by have := HW.out.2.1; omega) (fun hS => by
      rcases hS with h | h
      · have := HW.out.2.1; omega
      · cases h), e1]
    exact H1.out.2.2
  have h3 := H3.out.1
  rw [Int.zero_add] at h3
  have hsum := hsum_any w3 E E v3 _ _ b.length (H.out.1.new hb3) h3 (by rw [write_length]; omega) (by omega)
  have hz3 : W.heap.size < w3.heap.size := (Array.getElem?_eq_some_iff.1 hr3).1
  obtain ⟨D, hD⟩ : ∃ D, D = Sha.sum b := ⟨_, rfl⟩
  have hsum' : Calls Tryd.prog 49 #[.pointer (some ⟨E, 0, none⟩)] w3 (SumPost w3 D) := by rw [hD]; exact hsum
  rw [← hD]
  obtain ⟨o1, o2, o3⟩ := digV_ok D (by rw [hD]; rfl)
  obtain ⟨L1, hL1⟩ : ∃ L1, L1 = (bytesV D).toArray := ⟨_, rfl⟩
  rw [← hL1] at o1 o2 o3
  obtain ⟨L0, hL0⟩ : ∃ L0, L0 = (List.replicate 32 (.int .u8 0 : Value)).toArray := ⟨_, rfl⟩
  rw [← hL0] at hr3
  have HS := Lib.hid (And.intro hsum' (And.intro hb3 (And.intro hr3 (And.intro hz3 (And.intro o1 (And.intro o2 o3))))))
  have HL := Lib.hid (And.intro hL1 (And.intro hL0 (And.intro (by rw [hL0, o3]; rfl : L0.size = L1.size) hD)))
  clear hsum hsum' hb3 hr3 hz3 h3 o1 o2 o3 hD hL1 hL0 HW H3 H2 H1
  go_wp2_with (first | (go_at_call 49; (with_reducible refine Calls.mono HS.out.1 ?_); rintro e w4 ⟨rfl, hb4⟩; have hr4 := (hb4.block _ HS.out.2.2.2.1).trans HS.out.2.2.1; have H4 := Lib.hid (And.intro hb4 hr4); clear hb4 hr4; unfold digV; rw [← HL.out.1]) | (refine wpList_store_row rfl 24 (.tmp 2) (.tmp 9) rfl W.heap.size L1 rfl rfl 24 L0 H4.out.2 HS.out.2.2.2.2.1 HL.out.2.2.1 HS.out.2.2.2.2.2.1 ?_))
  refine bodyPost_ret (results_cell_row (by rfl) _ _ W.heap.size 24 L1 (0, 0) _ (by rfl) (setRow_heap _ _ _ _ _ _ H4.out.2) Tryd.underlying24 (by rfl) HS.out.2.2.2.2.1) rfl ⟨?_, ?_⟩
  · rw [HL.out.1, HL.out.2.2.2]; rfl
  · exact below_setRow (HS.out.2.1.trans (H4.out.1.mono HS.out.2.1.size)) _ _ (Nat.le_refl _)
end Go.Proofs.YtplcjgpmainbnaaDoor.ShaW
