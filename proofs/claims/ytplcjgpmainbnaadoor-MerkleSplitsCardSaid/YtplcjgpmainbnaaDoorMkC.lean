/- merkle.Node. -/
import Derived.Test.YtplcjgpmainbnaaDoorMkB
set_option linter.unusedVariables false
set_option linter.unusedSimpArgs false
namespace Go.Proofs.YtplcjgpmainbnaaDoor.MkW
open Go.RowKit OwnS ShaW
attribute [local go_sem ↓] Kit.execOp_call_slot
attribute [local go_sem] Kit.callSlot_func
/-- A digest: 32 bytes. -/
def Dig (d : List Nat) : Prop := d.length = 32 ∧ ∀ x ∈ d, x < 256
theorem dig_sum (b : List Nat) : Dig (Sha.sum b) := ⟨sum_length b, sum_byte b⟩
theorem dig_node (a b : List Nat) : Dig (Mk.nodeH Sha.sum a b) := dig_sum _
theorem sees_block {w : World} {g : Nat} {l : List Nat} {t : TypeId} (h : w.heap[g]? = some (.cells (bytesV l).toArray t (0, 0))) (hl : l.length ≤ 1000000) : Sees w 1 (.slice (some ⟨g, 0, none⟩) l.length l.length) l.length (bytesV l) :=
  (Owns.whole (base := 0) h (Nat.zero_le _) (by rw [bytesV_length]; omega) (by unfold maxLen; omega)).sees
set_option maxRecDepth 100000 in
set_option maxHeartbeats 1000000 in
theorem node_any (W : World) (a b : List Nat) (hG : Glob W) (ha : Dig a) (hb : Dig b) : Calls Tryd.prog 16 #[digV a, digV b] W (SumPost W (Mk.nodeH Sha.sum a b)) := by
  obtain ⟨D, hD⟩ : ∃ D, D = Mk.nodeH Sha.sum a b := ⟨_, rfl⟩
  rw [← hD]
  have H := Lib.hid (And.intro hG (And.intro ha (And.intro hb hD)))
  clear hG ha hb hD
  unfold digV
  go_enter Tryd.func16, Tryd.ntmps16
  go_upto_region 1 with (fail)
  obtain ⟨w1, hw1⟩ : ∃ w1, w1 = ((W.alloc (.cells (bytesV a).toArray 24)).alloc (.cells (bytesV b).toArray 24)).alloc (.cells zero32.toArray 24) := ⟨_, rfl⟩
  change (Code.region _ _ _).wp _ _ _ (((W.alloc (.cells (bytesV a).toArray 24)).alloc (.cells (bytesV b).toArray 24)).alloc (.cells zero32.toArray 24))
  rw [← hw1]
  obtain ⟨R, hR⟩ : ∃ R, R = W.heap.size + 1 + 1 := ⟨_, rfl⟩
  rw [← hR]
  have hs1 : w1.heap.size = R + 1 := by rw [hw1, hR]; simp
  have hR1 : ResAt W w1 R := by
    rw [hw1, hR]
    refine ⟨(((Below.refl _ _).alloc (Nat.le_refl _) _).alloc (by simp) _).alloc (by simp; omega) _, by omega, by simp, ?_⟩
    have := heap_alloc_new ((W.alloc (.cells (bytesV a).toArray 24)).alloc (.cells (bytesV b).toArray 24)) (.cells zero32.toArray 24)
    simpa using this
  have hA1 : w1.heap[W.heap.size]? = some (.cells (bytesV a).toArray 24 (0, 0)) := by
    rw [hw1, Below.heap_alloc _ _ _ (by simp; omega), Below.heap_alloc _ _ _ (by simp)]
    exact heap_alloc_new _ _
  have hB1 : w1.heap[W.heap.size + 1]? = some (.cells (bytesV b).toArray 24 (0, 0)) := by
    rw [hw1, Below.heap_alloc _ _ _ (by simp)]
    have := heap_alloc_new (W.alloc (.cells (bytesV a).toArray 24)) (.cells (bytesV b).toArray 24)
    simpa using this
  have hsA := sees_block hA1 (by rw [H.out.2.1.1]; omega)
  have hsB := sees_block hB1 (by rw [H.out.2.2.1.1]; omega)
  rw [H.out.2.1.1] at hsA
  rw [H.out.2.2.1.1] at hsB
  have H1 := Lib.hid (And.intro hs1 (And.intro hR1 (And.intro hsA hsB)))
  clear hs1 hR1 hsA hsB hA1 hB1 hw1 hR
  obtain ⟨w2, hw2⟩ : ∃ w2, w2 = ((w1.alloc (.cells #[.int .u8 1] 5)).alloc (.cells #[.slice (some ⟨w1.heap.size, 0, none⟩) 1 1, .slice (some ⟨W.heap.size, 0, none⟩) 32 32, .slice (some ⟨W.heap.size + 1, 0, none⟩) 32 32] 28)).drew := ⟨_, rfl⟩
  have hb2 : Below w1.heap.size w1 w2 := by rw [hw2]; exact (((Below.refl _ _).alloc (Nat.le_refl _) _).alloc (by simp) _).drew
  have hrows : RowsAt w2 (.slice (some ⟨w1.heap.size + 1, 0, none⟩) 3 3) [.slice (some ⟨w1.heap.size, 0, none⟩) 1 1, .slice (some ⟨W.heap.size, 0, none⟩) 32 32, .slice (some ⟨W.heap.size + 1, 0, none⟩) 32 32] [[1], a, b] := by
    have hk0 : w2.heap[w1.heap.size]? = some (.cells (bytesV [1]).toArray 5 (0, 0)) := by
      rw [hw2]
      show ((w1.alloc (.cells #[.int .u8 1] 5)).alloc _).heap[w1.heap.size]? = _
      rw [Below.heap_alloc _ _ _ (by simp)]
      exact heap_alloc_new _ _
    have hk1 : w2.heap[w1.heap.size + 1]? = some (.cells ([.slice (some ⟨w1.heap.size, 0, none⟩) 1 1, .slice (some ⟨W.heap.size, 0, none⟩) 32 32, .slice (some ⟨W.heap.size + 1, 0, none⟩) 32 32] : List Value).toArray 28 (0, 0)) := by
      rw [hw2]
      have := heap_alloc_new (w1.alloc (.cells #[.int .u8 1] 5)) (.cells #[.slice (some ⟨w1.heap.size, 0, none⟩) 1 1, .slice (some ⟨W.heap.size, 0, none⟩) 32 32, .slice (some ⟨W.heap.size + 1, 0, none⟩) 32 32] 28)
      have e : (w1.alloc (.cells #[.int .u8 1] 5)).heap.size = w1.heap.size + 1 := by simp
      rw [e] at this
      exact this
    refine ⟨(Owns.whole (base := 0) (size := 1) (k := 3) hk1 (Nat.zero_le _) rfl (by unfold maxLen; omega)).sees, fun i l hl => ?_, fun l hl x hx => ?_⟩
    · match i, hl with
      | 0, hl => injection hl with hl; subst hl; exact ⟨_, rfl, sees_block hk0 (by simp)⟩
      | 1, hl => injection hl with hl; subst hl; exact ⟨_, rfl, by rw [H.out.2.1.1]; exact H1.out.2.2.1.new hb2⟩
      | 2, hl => injection hl with hl; subst hl; exact ⟨_, rfl, by rw [H.out.2.2.1.1]; exact H1.out.2.2.2.new hb2⟩
    · simp only [List.mem_cons, List.not_mem_nil, or_false] at hl
      rcases hl with rfl | rfl | rfl
      · simp at hx; omega
      · exact H.out.2.1.2 x hx
      · exact H.out.2.2.1.2 x hx
  have hc := concat_bytes w2 _ _ _ hrows (by simp) (by unfold lens; simp [H.out.2.1.1, H.out.2.2.1.1])
  have hfl : ([[1], a, b] : List (List Nat)).flatten = Mk.nodeB a b := by simp [Mk.nodeB]
  rw [hfl, hw2] at hc
  rw [hw2] at hb2
  have HC := Lib.hid (And.intro hc hb2)
  clear hc hb2 hrows hfl hw2
  go_region_held3 (fun w' => True) (trivial) (first | (go_at_call 38; (with_reducible refine Calls.mono HC.out.1 ?_); rintro e w3 ⟨A3, c3, rfl, hs3, hb3⟩; have hR3 : ResAt W w3 R := (H1.out.2.1.new' HC.out.2).new' hb3; have hc3 := sum_any w3 _ (Mk.nodeB a b) (H.out.1.new hR3.below) hs3 (fun x hx => by rcases List.mem_cons.1 hx with rfl | hx; omega; rcases List.mem_append.1 hx with hx | hx; exact H.out.2.1.2 x hx; exact H.out.2.2.1.2 x hx) (by unfold Mk.nodeB; simp [H.out.2.1.1, H.out.2.2.1.1]); have H3 := Lib.hid (And.intro hc3 hR3); clear hc3 hR3 hs3 hb3) | (go_at_call 32; (with_reducible refine Calls.mono H3.out.1 ?_); rintro e w4 ⟨rfl, hb4⟩; have hR4 : Hid (ResAt W w4 R) := H3.out.2.new' hb4; have o1 := bytesV_one (Sha.sum (Mk.nodeB a b)); have o2 : w4.there R 0 (bytesV (Sha.sum (Mk.nodeB a b))).length := hR4.out.there _ (by rw [bytesV_length, sum_length]); have o3 := dig_infoD (Sha.sum (Mk.nodeB a b)) (sum_length _); clear hb4))
  clear o1 o2 o3
  go_wp2_with fail
  have hm := hR4.out.mids (Sha.sum (Mk.nodeB a b)) (sum_length _)
  refine bodyPost_ret (ret_dig_mid (by rfl) _ _ R _ (by rfl) hm.1 (sum_length _)) rfl ⟨?_, hm.2⟩
  rw [H.out.2.2.2]
  rfl
end Go.Proofs.YtplcjgpmainbnaaDoor.MkW
