/- The chapter's example. -/
import Derived.Test.YtplcjgpmainbnaaDoorMkP
import Derived.Test.YtplcjgpmainbnaaDoorMkU
import Derived.Lib.SmallJoins
set_option linter.unusedVariables false
set_option linter.unusedSimpArgs false
namespace Go.Proofs.YtplcjgpmainbnaaDoor.MkW
open Go.RowKit OwnS ShaW QTail
attribute [local go_sem ↓] Kit.execOp_call_slot
attribute [local go_sem] Kit.callSlot_func
theorem ne_ab : leafH [97] ≠ leafH [98] := by
  intro h
  have : (leafH [97]).head? = (leafH [98]).head? := by rw [h]
  revert this
  unfold leafH
  decide +kernel
theorem sees_mark {w : World} {g : Nat} {l : List Nat} {t : TypeId} {fr : Nat × Nat} (h : w.heap[g]? = some (.cells (bytesV l).toArray t fr)) (hl : l.length ≤ 1000000) : Sees w 1 (.slice (some ⟨g, 0, none⟩) l.length l.length) l.length (bytesV l) :=
  ⟨by rw [bytesV_length]; omega, .inr ⟨g, 0, l.length, rfl, Nat.le_refl _, by unfold maxLen; omega, rangeAt_whole h⟩⟩
theorem leaf_byte (W w : World) (g x : Nat) (fr : Nat × Nat) (hG : Glob W) (hb : Below W.heap.size W w) (hg : w.heap[g]? = some (.cells #[.int .u8 (x : Int)] 5 fr)) (hx : x < 256) : Calls Tryd.prog 12 #[.slice (some ⟨g, 0, none⟩) 1 1] w (SumPost w (leafH [x])) :=
  leaf_any w _ [x] (hG.new hb) (sees_mark (l := [x]) hg (by simp)) (by simpa using hx) (by simp)
theorem heap_mark (w : World) (C : Array Value) (t : TypeId) (fr : Nat × Nat) : (w.alloc (.cells C t fr)).heap[w.heap.size]? = some (.cells C t fr) := by
  show (w.heap.push _)[w.heap.size]? = _
  simp
theorem below_chain {W w w' : World} (h : Below W.heap.size W w) (k : Below w.heap.size w w') : Below W.heap.size W w' := h.trans (k.mono h.size)
theorem rows3 (w : World) (g0 g1 g2 g : Nat) (f0 f1 f2 : Nat × Nat) (h0 : w.heap[g0]? = some (.cells #[.int .u8 97] 5 f0)) (h1 : w.heap[g1]? = some (.cells #[.int .u8 98] 5 f1)) (h2 : w.heap[g2]? = some (.cells #[.int .u8 99] 5 f2))
    (h : w.heap[g]? = some (.cells #[.slice (some ⟨g0, 0, none⟩) 1 1, .slice (some ⟨g1, 0, none⟩) 1 1, .slice (some ⟨g2, 0, none⟩) 1 1] 28 (0, 0))) :
    RowsAt w (.slice (some ⟨g, 0, none⟩) 3 3) [.slice (some ⟨g0, 0, none⟩) 1 1, .slice (some ⟨g1, 0, none⟩) 1 1, .slice (some ⟨g2, 0, none⟩) 1 1] [[97], [98], [99]] := by
  refine ⟨(Owns.whole (base := 0) (size := 1) (k := 3) h (Nat.zero_le _) rfl (by unfold maxLen; omega)).sees, fun i l hl => ?_, fun l hl x hx => ?_⟩
  · match i, hl with
    | 0, hl => injection hl with hl; subst hl; exact ⟨_, rfl, sees_mark (l := [97]) h0 (by simp)⟩
    | 1, hl => injection hl with hl; subst hl; exact ⟨_, rfl, sees_mark (l := [98]) h1 (by simp)⟩
    | 2, hl => injection hl with hl; subst hl; exact ⟨_, rfl, sees_mark (l := [99]) h2 (by simp)⟩
  · simp only [List.mem_cons, List.not_mem_nil, or_false] at hl
    rcases hl with rfl | rfl | rfl <;> (simp at hx; omega)
theorem half3 : Mk.half 3 = 2 := by decide
theorem half2 : Mk.half 2 = 1 := by decide
theorem root2 (a b : List Nat) : rootN [a, b] = Mk.nodeH Sha.sum a b := by
  unfold rootN
  rw [Mk.root_split _ _ (by simp)]
  simp only [List.length_cons, List.length_nil, Nat.zero_add, Nat.reduceAdd, half2, List.take_succ_cons, List.take_zero, List.drop_succ_cons, List.drop_zero, Mk.root_one]
theorem root3 (a b c : List Nat) : rootN [a, b, c] = Mk.nodeH Sha.sum (Mk.nodeH Sha.sum a b) c := by
  have h := root2 a b
  unfold rootN at *
  rw [Mk.root_split _ _ (by simp)]
  simp only [List.length_cons, List.length_nil, Nat.zero_add, Nat.reduceAdd, half3, List.take_succ_cons, List.take_zero, List.drop_succ_cons, List.drop_zero, Mk.root_one]
  rw [h]
theorem proof3 (a b c : List Nat) : proofN 2 [a, b, c] = [Mk.nodeH Sha.sum a b] := by
  have h := root2 a b
  unfold rootN at h
  unfold proofN
  rw [Mk.proof_right _ _ (by simp) (by simp [half3])]
  simp only [List.length_cons, List.length_nil, Nat.zero_add, Nat.reduceAdd, half3, List.take_succ_cons, List.take_zero, List.drop_succ_cons, List.drop_zero]
  rw [Mk.proof_few _ _ (by simp), h]
  rfl
/-- The example's proof. -/
theorem Prove_3 (W : World) (v : Value) (hs : List Value) (hG : Glob W) (h : RowsAt W v hs [[97], [98], [99]]) : Calls Tryd.prog 18 #[.int .i64 2, v] W (ProofPost W [Mk.nodeH Sha.sum (leafH [97]) (leafH [98])]) := by
  have := Prove_some W v hs [[97], [98], [99]] 2 hG h (by simp) (by simp) (by simp) (revs_few _ (by rw [List.length_map]; decide))
  rwa [show ([[97], [98], [99]] : List (List Nat)).map leafH = [leafH [97], leafH [98], leafH [99]] from rfl, proof3] at this
/-- A digest's variable, made and filled. -/
theorem var_cut (w1 : World) (D : List Nat) : ∃ x, x = (w1.alloc (.cells zero32.toArray 24)).setRow w1.heap.size (bytesV D).toArray ∧ x.heap[w1.heap.size]? = some (.cells (bytesV D).toArray 24 (0, 0)) ∧ Below w1.heap.size w1 x ∧ w1.heap.size < x.heap.size := by
  have h1 := setRow_heap (w1.alloc (.cells zero32.toArray 24)) w1.heap.size zero32.toArray (bytesV D).toArray 24 (0, 0) (heap_alloc_new _ _)
  exact ⟨_, rfl, h1, below_setRow ((Below.refl _ _).alloc (Nat.le_refl _) _) _ _ (Nat.le_refl _), (Array.getElem?_eq_some_iff.1 h1).1⟩
set_option maxRecDepth 100000 in
set_option maxHeartbeats 4000000 in
theorem awake_any (W : World) (hG : Glob W) : Calls Tryd.prog 11 #[] W fun e w' => e = .returned (.bool true) ∧ Below W.heap.size W w' := by
  obtain ⟨a, ha⟩ : ∃ a, a = leafH [97] := ⟨_, rfl⟩
  obtain ⟨b, hb⟩ : ∃ b, b = leafH [98] := ⟨_, rfl⟩
  obtain ⟨c, hc⟩ : ∃ c, c = leafH [99] := ⟨_, rfl⟩
  have da : Dig a := by rw [ha]; exact dig_leaf _
  have db : Dig b := by rw [hb]; exact dig_leaf _
  have dc : Dig c := by rw [hc]; exact dig_leaf _
  have hab : a ≠ b := by rw [ha, hb]; exact ne_ab
  have ca : ∀ (w : World) (g : Nat) (fr : Nat × Nat), Below W.heap.size W w → w.heap[g]? = some (.cells #[.int .u8 97] 5 fr) → Calls Tryd.prog 12 #[.slice (some ⟨g, 0, none⟩) 1 1] w (SumPost w (leafH [97])) := fun w g fr h1 h2 => leaf_byte W w g 97 fr hG h1 h2 (by decide)
  have cb : ∀ (w : World) (g : Nat) (fr : Nat × Nat), Below W.heap.size W w → w.heap[g]? = some (.cells #[.int .u8 98] 5 fr) → Calls Tryd.prog 12 #[.slice (some ⟨g, 0, none⟩) 1 1] w (SumPost w (leafH [98])) := fun w g fr h1 h2 => leaf_byte W w g 98 fr hG h1 h2 (by decide)
  have cc : ∀ (w : World) (g : Nat) (fr : Nat × Nat), Below W.heap.size W w → w.heap[g]? = some (.cells #[.int .u8 99] 5 fr) → Calls Tryd.prog 12 #[.slice (some ⟨g, 0, none⟩) 1 1] w (SumPost w (leafH [99])) := fun w g fr h1 h2 => leaf_byte W w g 99 fr hG h1 h2 (by decide)
  rw [← ha] at ca
  rw [← hb] at cb
  rw [← hc] at cc
  have H := Lib.hid (And.intro hG (And.intro ha (And.intro hb (And.intro hc (And.intro da (And.intro db (And.intro dc hab)))))))
  have HL := Lib.hid (And.intro ca (And.intro cb cc))
  clear hG ha hb hc da db dc hab ca cb cc
  have kc := fun (w : World) (C : Array Value) (n c g : Nat) (hg : g = w.heap.size) => Go.Joins.run_convert_bytes_const_at (P := Tryd.prog) w 28 5 C n c g hg Tryd.underlying28 Tryd.underlying5
  go_enter Tryd.func11, Tryd.ntmps11
  go_upto_region 2 with (first | (go_at_call 12; (with_reducible refine Calls.mono (HL.out.1 _ _ _ (by exact (Below.refl _ _).alloc (Nat.le_refl _) _) (by exact heap_mark _ _ _ _)) ?_); rintro e w1 ⟨rfl, hb1⟩) | (refine wpList_store_dig rfl (.tmp 1) (.tmp 8) rfl w1.heap.size rfl a rfl H.out.2.2.2.2.1.1 zero32 (by exact heap_alloc_new _ _) zero32_length ?_))
  change (Code.region _ _ _).wp _ _ _ ((w1.alloc (.cells zero32.toArray 24)).setRow w1.heap.size (bytesV a).toArray)
  obtain ⟨x1, hx1, hv1, hB1, hs1⟩ := var_cut w1 a
  rw [← hx1]
  have hW1 : Below W.heap.size W x1 := below_chain (below_chain ((Below.refl _ W).alloc (Nat.le_refl _) _) hb1) hB1
  obtain ⟨b1, hq1⟩ : ∃ b1, b1 = w1.heap.size := ⟨_, rfl⟩
  rw [← hq1] at hv1 hs1 ⊢
  have hn1 : W.heap.size ≤ b1 := by have := hb1.size; simp at this; omega
  have HX1 := Lib.hid (And.intro hv1 (And.intro hW1 (And.intro hs1 hn1)))
  clear hv1 hW1 hs1 hn1 hb1 hB1 hx1 hq1
  go_upto_region 3 with (first | (go_at_call 12; (with_reducible refine Calls.mono (HL.out.2.1 _ _ _ (by exact HX1.out.2.1.alloc HX1.out.2.1.size _) (by exact heap_mark _ _ _ _)) ?_); rintro e w2 ⟨rfl, hb2⟩) | (refine wpList_store_dig rfl (.tmp 2) (.tmp 11) rfl w2.heap.size rfl b rfl H.out.2.2.2.2.2.1.1 zero32 (by exact heap_alloc_new _ _) zero32_length ?_))
  change (Code.region _ _ _).wp _ _ _ ((w2.alloc (.cells zero32.toArray 24)).setRow w2.heap.size (bytesV b).toArray)
  obtain ⟨x2, hx2, hv2, hB2, hs2⟩ := var_cut w2 b
  rw [← hx2]
  have hW2 : Below W.heap.size W x2 := below_chain (below_chain (HX1.out.2.1.alloc HX1.out.2.1.size _) hb2) hB2
  obtain ⟨b2, hq2⟩ : ∃ b2, b2 = w2.heap.size := ⟨_, rfl⟩
  rw [← hq2] at hv2 hs2 ⊢
  have hX2 : Below x1.heap.size x1 x2 := below_chain (below_chain ((Below.refl _ x1).alloc (Nat.le_refl _) _) hb2) hB2
  have hv12 := (hX2.block b1 HX1.out.2.2.1).trans HX1.out.1
  have hn2 : W.heap.size ≤ b2 := by have := hb2.size; have := HX1.out.2.1.size; simp at *; omega
  have HX2 := Lib.hid (And.intro hv2 (And.intro hW2 (And.intro hs2 (And.intro hn2 (And.intro hv12 (Nat.lt_of_lt_of_le HX1.out.2.2.1 hX2.size))))))
  clear hv2 hW2 hs2 hn2 hb2 hB2 hx2 hq2 hX2 hv12
  go_upto_region 4 with (first | (go_at_call 12; (with_reducible refine Calls.mono (HL.out.2.2 _ _ _ (by exact HX2.out.2.1.alloc HX2.out.2.1.size _) (by exact heap_mark _ _ _ _)) ?_); rintro e w3 ⟨rfl, hb3⟩) | (refine wpList_store_dig rfl (.tmp 3) (.tmp 14) rfl w3.heap.size rfl c rfl H.out.2.2.2.2.2.2.1.1 zero32 (by exact heap_alloc_new _ _) zero32_length ?_))
  change (Code.region _ _ _).wp _ _ _ ((w3.alloc (.cells zero32.toArray 24)).setRow w3.heap.size (bytesV c).toArray)
  obtain ⟨x3, hx3, hv3, hB3, hs3⟩ := var_cut w3 c
  rw [← hx3]
  have hW3 : Below W.heap.size W x3 := below_chain (below_chain (HX2.out.2.1.alloc HX2.out.2.1.size _) hb3) hB3
  obtain ⟨b3, hq3⟩ : ∃ b3, b3 = w3.heap.size := ⟨_, rfl⟩
  rw [← hq3] at hv3 hs3 ⊢
  have hX3 : Below x2.heap.size x2 x3 := below_chain (below_chain ((Below.refl _ x2).alloc (Nat.le_refl _) _) hb3) hB3
  have hv13 := (hX3.block b1 HX2.out.2.2.2.2.2).trans HX2.out.2.2.2.2.1
  have hv23 := (hX3.block b2 HX2.out.2.2.1).trans HX2.out.1
  have hn3 : W.heap.size ≤ b3 := by have := hb3.size; have := HX2.out.2.1.size; simp at *; omega
  have HX3 := Lib.hid (And.intro hW3 (And.intro hv13 (And.intro hv23 hv3)))
  have HN3 := Lib.hid (And.intro HX1.out.2.2.2 (And.intro HX2.out.2.2.2.1 hn3))
  clear hv3 hW3 hs3 hn3 hb3 hB3 hx3 hq3 hX3 hv13 hv23
  obtain ⟨x4, hx4⟩ : ∃ x4, x4 = (((x3.alloc (.cells #[.int .u8 97] 5 (1, 2))).alloc (.cells #[.int .u8 98] 5 (1, 2))).alloc (.cells #[.int .u8 99] 5 (1, 2))).alloc (.cells #[.slice (some ⟨x3.heap.size, 0, none⟩) 1 1, .slice (some ⟨x3.heap.size + 1, 0, none⟩) 1 1, .slice (some ⟨x3.heap.size + 1 + 1, 0, none⟩) 1 1] 28) := ⟨_, rfl⟩
  have h4b : Below x3.heap.size x3 x4 := by rw [hx4]; exact ((((Below.refl _ _).alloc (Nat.le_refl _) _).alloc (by simp) _).alloc (by simp; omega) _).alloc (by simp; omega) _
  have h4r : RowsAt x4 (.slice (some ⟨x3.heap.size + 1 + 1 + 1, 0, none⟩) 3 3) [.slice (some ⟨x3.heap.size, 0, none⟩) 1 1, .slice (some ⟨x3.heap.size + 1, 0, none⟩) 1 1, .slice (some ⟨x3.heap.size + 1 + 1, 0, none⟩) 1 1] [[97], [98], [99]] := by
    refine rows3 x4 _ _ _ _ (1, 2) (1, 2) (1, 2) ?_ ?_ ?_ ?_
    · rw [hx4, Below.heap_alloc _ _ _ (by simp <;> omega), Below.heap_alloc _ _ _ (by simp <;> omega), Below.heap_alloc _ _ _ (by simp <;> omega)]
      exact heap_mark _ _ _ _
    · rw [hx4, Below.heap_alloc _ _ _ (by simp <;> omega), Below.heap_alloc _ _ _ (by simp <;> omega)]
      have := heap_mark (x3.alloc (.cells #[.int .u8 97] 5 (1, 2))) #[.int .u8 98] 5 (1, 2)
      rwa [World.size_alloc] at this
    · rw [hx4, Below.heap_alloc _ _ _ (by simp)]
      have := heap_mark ((x3.alloc (.cells #[.int .u8 97] 5 (1, 2))).alloc (.cells #[.int .u8 98] 5 (1, 2))) #[.int .u8 99] 5 (1, 2)
      rwa [World.size_alloc, World.size_alloc] at this
    · rw [hx4]
      have := heap_mark (((x3.alloc (.cells #[.int .u8 97] 5 (1, 2))).alloc (.cells #[.int .u8 98] 5 (1, 2))).alloc (.cells #[.int .u8 99] 5 (1, 2))) #[.slice (some ⟨x3.heap.size, 0, none⟩) 1 1, .slice (some ⟨x3.heap.size + 1, 0, none⟩) 1 1, .slice (some ⟨x3.heap.size + 1 + 1, 0, none⟩) 1 1] 28 (0, 0)
      rwa [World.size_alloc, World.size_alloc, World.size_alloc] at this
  have h4 := Prove_3 x4 _ _ (H.out.1.new (below_chain HX3.out.1 h4b)) h4r
  rw [← H.out.2.1, ← H.out.2.2.1, hx4] at h4
  have H4 := Lib.hid (And.intro h4 (hx4 ▸ h4b))
  clear h4 h4b h4r hx4
  go_upto_region 5 with (go_at_call 18; (with_reducible refine Calls.mono H4.out.1 ?_); rintro e w4 ⟨A4, c4, rfl, ho4, hb4⟩)
  have hb34 : Below x3.heap.size x3 w4 := below_chain H4.out.2 hb4
  have hs3 : ∀ (k : Nat) (cs : Array Value) (t : TypeId), x3.heap[k]? = some (.cells cs t (0, 0)) → w4.heap[k]? = some (.cells cs t (0, 0)) := fun k cs t hk => (hb34.block k (Array.getElem?_eq_some_iff.1 hk).1).trans hk
  obtain ⟨g4, o4, cap4, e4, -, hlt4, -, -, -, hr4⟩ := ho4.at_ (by simp)
  injection e4 with e41 e42 e43
  subst e41 e43
  obtain ⟨n1, hn1⟩ : ∃ n1, n1 = Mk.nodeH Sha.sum a b := ⟨_, rfl⟩
  obtain ⟨n2, hn2⟩ : ∃ n2, n2 = Mk.nodeH Sha.sum n1 c := ⟨_, rfl⟩
  rw [← hn1] at hr4
  have r4 : w4.rangeAt g4 o4 (bytesV n1) := by have := hr4 0 n1 rfl; simpa using this
  have r1 : w4.rangeAt b1 0 (bytesV a) := rangeAt_whole (hs3 _ _ _ HX3.out.2.1)
  have r2 : w4.rangeAt b2 0 (bytesV b) := rangeAt_whole (hs3 _ _ _ HX3.out.2.2.1)
  have r3 : w4.rangeAt b3 0 (bytesV c) := rangeAt_whole (hs3 _ _ _ HX3.out.2.2.2)
  have dn1 : Dig n1 := by rw [hn1]; exact dig_node _ _
  have dn2 : Dig n2 := by rw [hn2]; exact dig_node _ _
  have hG4 := H.out.1.new (below_chain HX3.out.1 hb34)
  have hcr : ∀ (w : World) (v : Value) (hs : List Value), Below w4.heap.size w4 w → RowsAt w v hs [[97], [98], [99]] → Calls Tryd.prog 14 #[v] w (SumPost w n2) := fun w v hs hb hr => by
    have := Root_any w v hs _ (hG4.new hb) hr (by simp) (by simp)
    rwa [show ([[97], [98], [99]] : List (List Nat)).map leafH = [leafH [97], leafH [98], leafH [99]] from rfl, root3, ← H.out.2.1, ← H.out.2.2.1, ← H.out.2.2.2.1, ← hn1, ← hn2] at this
  have hc1 : ∀ (w : World), Below w4.heap.size w4 w → Calls Tryd.prog 16 #[digV a, digV b] w (SumPost w n1) := fun w hb => by rw [hn1]; exact node_any w a b (hG4.new hb) H.out.2.2.2.2.1 H.out.2.2.2.2.2.1
  have hc2 : ∀ (w : World), Below w4.heap.size w4 w → Calls Tryd.prog 16 #[digV n1, digV c] w (SumPost w n2) := fun w hb => by rw [hn2]; exact node_any w n1 c (hG4.new hb) dn1 H.out.2.2.2.2.2.2.1
  have HR := Lib.hid (And.intro r1 (And.intro r2 (And.intro r3 r4)))
  have kl : ∀ (k : Nat) (cs : Array Value) (t : TypeId), x3.heap[k]? = some (.cells cs t (0, 0)) → k < w4.heap.size := fun k cs t hk => (Array.getElem?_eq_some_iff.1 (hs3 k cs t hk)).1
  have HK := Lib.hid (And.intro (kl _ _ _ HX3.out.2.1) (And.intro (kl _ _ _ HX3.out.2.2.1) (And.intro (kl _ _ _ HX3.out.2.2.2) hlt4)))
  clear kl hlt4
  have HC := Lib.hid (And.intro hcr (And.intro hc1 hc2))
  have HB := Lib.hid (below_chain HX3.out.1 hb34)
  have HD := Lib.hid (And.intro dn1 dn2)
  clear r1 r2 r3 r4 hcr hc1 hc2 hb34 hs3 ho4 hr4 hb4 hG4 hn1 hn2 dn1 dn2 kc H4
  refine wp_region_S (Below w4.heap.size w4) (by kernel_rfl) ?_
  change QTail.wpAnyS _ _ _ _ _ (37 + 1) (Array.replicate 38 false) _ _
  refine wpAnyS_take (k := 8) rfl (by kernel_rfl) rfl (by kernel_rfl) (by kernel_rfl) (Below.refl _ _).drew ?_
  refine wpQuiet_load_dig rfl (.tmp 1) rfl b1 0 rfl a H.out.2.2.2.2.1.1 (fun w hw => rangeAt_block HR.out.1 (hw.block _ HK.out.1)) ?_
  refine wpQuiet_nil ?_
  simp only [Act.put, List.setIfInBounds_toArray, List.set_cons_succ, List.set_cons_zero]
  change QTail.wpAnyS _ _ _ _ _ (36 + 1) _ _ _
  refine wpAnyS_take (k := 9) rfl (by kernel_rfl) rfl (by kernel_rfl) (by kernel_rfl) (Below.refl _ _).drew ?_
  refine wpQuiet_load_dig rfl (.tmp 2) rfl b2 0 rfl b H.out.2.2.2.2.2.1.1 (fun w hw => rangeAt_block HR.out.2.1 (hw.block _ HK.out.2.1)) ?_
  refine wpQuiet_nil ?_
  simp only [Act.put, List.setIfInBounds_toArray, List.set_cons_succ, List.set_cons_zero]
  change QTail.wpAnyS _ _ _ _ _ (35 + 1) _ _ _
  refine wpAnyS_take (k := 11) rfl (by kernel_rfl) rfl (by kernel_rfl) (by kernel_rfl) (Below.refl _ _).drew ?_
  refine wpQuiet_load_dig rfl (.tmp 3) rfl b3 0 rfl c H.out.2.2.2.2.2.2.1.1 (fun w hw => rangeAt_block HR.out.2.2.1 (hw.block _ HK.out.2.2.1)) ?_
  refine wpQuiet_nil ?_
  simp only [Act.put, List.setIfInBounds_toArray, List.set_cons_succ, List.set_cons_zero]
  rw [show (((Array.replicate 38 false).setIfInBounds 8 true).setIfInBounds 9 true).setIfInBounds 11 true = L5 (fun _ => 0) from by kernel_rfl]
  refine lits_any L5 ?hb ?hc L5_set (litsB_ready (by kernel_rfl)) 29 ?hend 6 (fun _ => 0) _ _ (fun _ _ => Nat.zero_le _) rfl ⟨(Below.refl _ _).drew, rfl, rfl, fun _ _ => rfl, fun k hk h => absurd h (by omega)⟩
  case hb =>
    intro k hk
    have hk' : k = 0 ∨ k = 1 ∨ k = 2 := by omega
    rcases hk' with rfl | rfl | rfl <;> exact ⟨_, rfl, rfl, rfl, rfl⟩
  case hc =>
    intro k hk
    have hk' : k = 0 ∨ k = 1 ∨ k = 2 := by omega
    rcases hk' with rfl | rfl | rfl <;> exact ⟨_, rfl, rfl, rfl, rfl⟩
  case hend =>
    intro a' w' p hinv e0 e1 e2
    have hp : ∀ k, k < 3 → p k = 2 := fun k hk => by
      have hk' : k = 0 ∨ k = 1 ∨ k = 2 := by omega
      rcases hk' with rfl | rfl | rfl <;> assumption
    have hL : L5 p = L5' 2 2 2 := by unfold L5; rw [e0, e1, e2]
    rw [hL]
    obtain ⟨g0, g1, g2, ⟨f0, h0⟩, ⟨f1', h1⟩, ⟨f2', h2⟩, rfl⟩ := lits_done hinv hp rfl
    have HI := Lib.hid (And.intro hinv.below (And.intro h0 (And.intro h1 h2)))
    clear hinv h0 h1 h2 hp hL e0 e1 e2
    simp only [List.setIfInBounds_toArray, List.set_cons_succ, List.set_cons_zero, slB]
    refine wpAnyS_mix_lit [6, 7, 10, 12, 13, 14, 15, 16, 17, 18, 19, 20, 21, 22, 23, 24, 25, 26, 27, 28, 29, 30, 31, 32, 33, 34, 35, 36, 37] rfl (by kernel_rfl) (by kernel_rfl) (by kernel_rfl) HI.out.1 ?_
    intro I hNI F hF
    simp only [pickOps, List.filterMap_cons, List.filterMap_nil, List.getElem?_cons_succ, List.getElem?_cons_zero]
    have f1 : ∀ i, (F i).rangeAt b1 0 (bytesV a) := fun i => rangeAt_block HR.out.1 ((hF i).block _ HK.out.1)
    have f2 : ∀ i, (F i).rangeAt b2 0 (bytesV b) := fun i => rangeAt_block HR.out.2.1 ((hF i).block _ HK.out.2.1)
    have f4 : ∀ i, (F i).rangeAt g4 o4 (bytesV n1) := fun i => rangeAt_block HR.out.2.2.2 ((hF i).block _ HK.out.2.2.2)
    clear hF
    have q1 : ∀ w, (binOp .eql 24 (digV n2) (digV n2)).run Tryd.prog w = .ok (.bool true) w := fun w => by rw [run_eql_dig w n2 n2 HD.out.2 HD.out.2, decide_eq_true rfl]
    have q2 : ∀ w, (binOp .eql 24 (digV n1) (digV n1)).run Tryd.prog w = .ok (.bool true) w := fun w => by rw [run_eql_dig w n1 n1 HD.out.1 HD.out.1, decide_eq_true rfl]
    have q3 : ∀ w, (binOp .neq 24 (digV a) (digV b)).run Tryd.prog w = .ok (.bool true) w := fun w => by rw [run_neq_dig w a b H.out.2.2.2.2.1 H.out.2.2.2.2.2.1, decide_eq_false H.out.2.2.2.2.2.2.2]; rfl
    have q4 : ∀ op x y w c d, (eqGuard op 24 x y (digV c) (digV d)).run Tryd.prog w = .ok () w := fun op x y w c d => run_guard_dig op x y w c d
    have hrr : Calls Tryd.prog 14 #[.slice (some ⟨w'.heap.size, 0, none⟩) 3 3] (w'.alloc (.cells #[.slice (some ⟨g0, 0, none⟩) 1 1, .slice (some ⟨g1, 0, none⟩) 1 1, .slice (some ⟨g2, 0, none⟩) 1 1] 28)) (SumPost (w'.alloc (.cells #[.slice (some ⟨g0, 0, none⟩) 1 1, .slice (some ⟨g1, 0, none⟩) 1 1, .slice (some ⟨g2, 0, none⟩) 1 1] 28)) n2) := by
      have kk : ∀ (g : Nat) (u : Int) (fr : Nat × Nat), w'.heap[g]? = some (.cells #[.int .u8 u] 5 fr) → (w'.alloc (.cells #[.slice (some ⟨g0, 0, none⟩) 1 1, .slice (some ⟨g1, 0, none⟩) 1 1, .slice (some ⟨g2, 0, none⟩) 1 1] 28)).heap[g]? = some (.cells #[.int .u8 u] 5 fr) := fun g u fr hg => (Below.heap_alloc _ _ _ (Array.getElem?_eq_some_iff.1 hg).1).trans hg
      exact HC.out.1 _ _ _ (HI.out.1.alloc HI.out.1.size _) (rows3 _ g0 g1 g2 _ f0 f1' f2' (kk _ _ _ HI.out.2.1) (kk _ _ _ HI.out.2.2.1) (kk _ _ _ HI.out.2.2.2) (heap_alloc_new _ _))
    refine mixW_step rfl ?_
    go_wp2_with fail
    refine ⟨rfl, HI.out.1.alloc HI.out.1.size _, ?_⟩
    refine mixW_step rfl ?_
    go_wp2_with (go_at_call 14; (with_reducible refine Calls.mono hrr ?_); rintro e w5 ⟨rfl, hb5⟩)
    have S5 : Below w4.heap.size w4 w5 := below_chain (HI.out.1.alloc HI.out.1.size _) hb5
    refine ⟨rfl, S5, ?_⟩
    have HS5 := Lib.hid S5
    clear S5 hb5 hrr
    refine mixW_step rfl ?_
    go_wp2_with (go_at_call 16; (with_reducible refine Calls.mono (HC.out.2.1 _ HS5.out) ?_); rintro e w6 ⟨rfl, hb6⟩)
    have S6 : Below w4.heap.size w4 w6 := below_chain HS5.out hb6
    refine ⟨rfl, S6, ?_⟩
    have HS6 := Lib.hid S6
    clear S6 hb6
    refine mixW_step rfl ?_
    go_wp2_with (go_at_call 16; (with_reducible refine Calls.mono (HC.out.2.2 _ HS6.out) ?_); rintro e w7 ⟨rfl, hb7⟩)
    have S7 : Below w4.heap.size w4 w7 := below_chain HS6.out hb7
    refine ⟨rfl, S7, ?_⟩
    have HS7 := Lib.hid S7
    clear S7 hb7
    repeat (refine mixW_head rfl ?_; (first | (refine wpQuiet_load_dig_w (by rfl) (.tmp 1) rfl b1 0 rfl a H.out.2.2.2.2.1.1 (fun w hw => by obtain ⟨i, rfl⟩ := hw; exact f1 i) ?_) | (refine wpQuiet_load_dig_w (by rfl) (.tmp 2) rfl b2 0 rfl b H.out.2.2.2.2.2.1.1 (fun w hw => by obtain ⟨i, rfl⟩ := hw; exact f2 i) ?_) | (refine wpQuiet_load_dig_w (by rfl) (.tmp 51) rfl g4 o4 rfl n1 HD.out.1.1 (fun w hw => by obtain ⟨i, rfl⟩ := hw; exact f4 i) ?_) | go_big_quiet_step (fail)); refine wpQuiet_nil ?_; try simp only [Act.put, List.setIfInBounds_toArray, List.set_cons_succ, List.set_cons_zero])
    refine mixW_step rfl ?_
    go_wp2_with fail
    refine ⟨rfl, HS7.out, ?_⟩
    repeat (refine mixW_head rfl ?_; (first | (refine wpQuiet_load_dig_w (by rfl) (.tmp 1) rfl b1 0 rfl a H.out.2.2.2.2.1.1 (fun w hw => by obtain ⟨i, rfl⟩ := hw; exact f1 i) ?_) | (refine wpQuiet_load_dig_w (by rfl) (.tmp 2) rfl b2 0 rfl b H.out.2.2.2.2.2.1.1 (fun w hw => by obtain ⟨i, rfl⟩ := hw; exact f2 i) ?_) | (refine wpQuiet_load_dig_w (by rfl) (.tmp 51) rfl g4 o4 rfl n1 HD.out.1.1 (fun w hw => by obtain ⟨i, rfl⟩ := hw; exact f4 i) ?_) | go_big_quiet_step (fail)); refine wpQuiet_nil ?_; try simp only [Act.put, List.setIfInBounds_toArray, List.set_cons_succ, List.set_cons_zero])
    refine mixW_step rfl ?_
    go_wp2_with (go_at_call 16; (with_reducible refine Calls.mono (HC.out.2.1 _ HS7.out) ?_); rintro e w8 ⟨rfl, hb8⟩)
    have S8 : Below w4.heap.size w4 w8 := below_chain HS7.out hb8
    refine ⟨rfl, S8, ?_⟩
    have HS8 := Lib.hid S8
    clear S8 hb8
    repeat (refine mixW_head rfl ?_; (first | (refine wpQuiet_load_dig_w (by rfl) (.tmp 1) rfl b1 0 rfl a H.out.2.2.2.2.1.1 (fun w hw => by obtain ⟨i, rfl⟩ := hw; exact f1 i) ?_) | (refine wpQuiet_load_dig_w (by rfl) (.tmp 2) rfl b2 0 rfl b H.out.2.2.2.2.2.1.1 (fun w hw => by obtain ⟨i, rfl⟩ := hw; exact f2 i) ?_) | (refine wpQuiet_load_dig_w (by rfl) (.tmp 51) rfl g4 o4 rfl n1 HD.out.1.1 (fun w hw => by obtain ⟨i, rfl⟩ := hw; exact f4 i) ?_) | go_big_quiet_step (fail)); refine wpQuiet_nil ?_; try simp only [Act.put, List.setIfInBounds_toArray, List.set_cons_succ, List.set_cons_zero])
    unfold mixW
    go_wp2_with fail
    go_ret
    exact ⟨rfl, below_chain HB.out HS8.out⟩
end Go.Proofs.YtplcjgpmainbnaaDoor.MkW
