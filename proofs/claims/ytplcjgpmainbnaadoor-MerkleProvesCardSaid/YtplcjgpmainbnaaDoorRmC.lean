/- The reference's merkle: Prove. -/
import Derived.Test.YtplcjgpmainbnaaDoorRmB
set_option linter.unusedVariables false
set_option linter.unusedSimpArgs false
namespace Go.Proofs.YtplcjgpmainbnaaDoor.RmW
open Go.RowKit OwnS ShaW MkW RsW QTail
attribute [local go_sem ↓] Kit.execOp_call_slot
attribute [local go_sem] Kit.callSlot_func
/-- Nothing is held. -/
def AnyW (_ : World) : Prop := True
theorem anyW (w : World) : AnyW w := trivial
def rproof (i : Nat) (ls : List (List Nat)) : List (List Nat) := proofN i (ls.map leafH)
theorem rproof_len (i : Nat) (ls : List (List Nat)) (hi : i < ls.length) : (rproof i ls).length ≤ ls.length := by
  unfold rproof
  have h := Mk.parts_length (Sha.sum [2]) (Mk.nodeH Sha.sum) ls.length 0 ls.length i (ls.map leafH) (by omega) (by omega) (by simp) (by omega) hi
  rw [List.take_of_length_le (by simp), List.drop_zero, Nat.sub_zero] at h
  have h2 := parts_len ls.length 0 ls.length i
  unfold proofN
  omega
set_option maxRecDepth 100000 in
theorem rprove_few (W : World) (v : Value) (hs : List Value) (ls : List (List Nat)) (i : Int) (h : RowsAt W v hs ls) (h2 : ls.length < 2) : Calls Tryd.prog 20 #[.int .i64 i, v] W (DigsPost W []) := by
  obtain ⟨A, c, rfl, -, -⟩ := h.sees.form
  have h2' : (ls.length : Int) < 2 := by omega
  clear h
  go_enter Tryd.func20, Tryd.ntmps20
  go_wp2_with fail
  go_ret
  exact ⟨none, 0, rfl, ⟨Owns.nil _ _ _, by simp⟩, Below.refl _ _⟩
set_option maxRecDepth 100000 in
set_option maxHeartbeats 4000000 in
theorem rprove_left (N : Nat) (ih : ∀ (W : World) (v : Value) (hs : List Value) (ls : List (List Nat)) (i : Nat), ls.length ≤ N → i < ls.length → RowsFew ls → RowsAt W v hs ls → Calls Tryd.prog 20 #[.int .i64 i, v] W (DigsPost W (rproof i ls)))
    (W : World) (v : Value) (hs : List Value) (ls : List (List Nat)) (i : Nat) (hN : ls.length ≤ N + 1) (h2 : 2 ≤ ls.length) (hi : i < ls.length) (hik : i < Mk.half ls.length) (hM : RowsFew ls) (h : RowsAt W v hs ls) : Calls Tryd.prog 20 #[.int .i64 i, v] W (DigsPost W (rproof i ls)) := by
  have hm2 : 2 ≤ (ls.map leafH).length := by simpa using h2
  have hsp : rproof i ls = rproof i (ls.take (Mk.half ls.length)) ++ [rootN ((ls.drop (Mk.half ls.length)).map leafH)] := by
    unfold rproof proofN
    rw [Mk.proof_left _ _ hm2 (by rw [List.length_map]; exact hik), List.length_map, List.map_take, List.map_drop]
  obtain ⟨g, o, cap, rfl, hc1, hcm, -⟩ := h.sees.holds (by omega)
  have hk1 := Mk.half_pos ls.length
  have hk2 := Mk.half_lt h2
  have HH := fun w => half_all w ls.length (by have := hM.1; omega)
  obtain ⟨k, hk⟩ : ∃ k, k = Mk.half ls.length := ⟨_, rfl⟩
  rw [← hk] at hk1 hk2 hsp HH hik
  have hlM := hM.1
  have l1 : (ls.take k).length ≤ N := by rw [List.length_take]; omega
  have l2 : (ls.take k).length = k := by rw [List.length_take]; omega
  have c1 : ∀ w, Below W.heap.size W w → Calls Tryd.prog 20 #[.int .i64 i, .slice (some ⟨g, o, none⟩) k cap] w (DigsPost w (rproof i (ls.take k))) := fun w hw =>
    ih w _ _ (ls.take k) i l1 (by omega) (hM.take k) ((h.new hw).take (by omega) ⟨by omega, Nat.le_refl _⟩)
  have c2 : ∀ w, Below W.heap.size W w → Calls Tryd.prog 15 #[.slice (some ⟨g, o + k, none⟩) (ls.length - k) (cap - k)] w (SumPost w (rootN ((ls.drop k).map leafH))) := fun w hw =>
    rroot_of w _ _ (ls.drop k) (hM.drop k) ((h.new hw).drop (by omega) _ (.inr rfl))
  have g2 : Dig (rootN ((ls.drop k).map leafH)) := dig_root _ _ (Nat.le_refl _) (dig_leaves _)
  obtain ⟨p1, hp1⟩ : ∃ p1, p1 = rproof i (ls.take k) := ⟨_, rfl⟩
  obtain ⟨r2, hr2⟩ : ∃ r2, r2 = rootN ((ls.drop k).map leafH) := ⟨_, rfl⟩
  rw [← hp1] at c1 hsp
  rw [← hr2] at c2 g2 hsp
  rw [hsp]
  have hpl : p1.length ≤ 1000000 := by rw [hp1]; have := rproof_len i (ls.take k) (by omega); omega
  have HL := Lib.hid hpl
  clear hpl
  have HC := Lib.hid (And.intro c1 (And.intro c2 (And.intro g2 HH)))
  clear c1 c2 g2 HH hsp hp1 hr2 ih hM h hk hm2 l1
  have hge : ¬ (ls.length : Int) < 2 := by omega
  have hck : ¬ cap = k := by omega
  have i1 : (0 : Int) ≤ (k : Int) := by omega
  have i2 : (k : Int) ≤ (cap : Int) := by omega
  have i3 : (k : Int) ≤ (ls.length : Int) := by omega
  have i4 : (i : Int) < (k : Int) := by omega
  go_enter Tryd.func20, Tryd.ntmps20
  go_wp2_with (go_at_call 37; (with_reducible refine Calls.mono (HC.out.2.2.2 _) ?_); rintro e w' ⟨rfl, rfl⟩)
  refine wp_region_mixS AnyW (fun _ => false) [0, 1, 2, 3, 5, 6, 7, 4, 8, 9, 10, 11] (by kernel_rfl) rfl (by kernel_rfl) (by kernel_rfl) (by kernel_rfl) (anyW _) ?_
  intro I hNI F hF
  simp only [pairOps, List.filterMap_cons, List.filterMap_nil, List.getElem?_cons_succ, List.getElem?_cons_zero, Option.map_some]
  repeat (refine mixN_free rfl rfl ?_; go_big_quiet_step (fail); refine wpQuiet_nil ?_)
  refine mixN_step rfl ?_
  go_wp2_with (go_at_call 20; (with_reducible refine Calls.mono (HC.out.1 W.drew ⟨rfl, rfl, rfl, Nat.le_refl _, fun _ _ => rfl⟩) ?_); rintro e w2 ⟨A2, c2, rfl, ho2, hb2⟩)
  have hb2' : Below W.heap.size W w2 := ⟨hb2.os, hb2.tape, hb2.output, hb2.size, hb2.block⟩
  refine ⟨rfl, fun _ => anyW _, ?_⟩
  have H2 := Lib.hid (And.intro (show OwnD w2 W.heap.size _ _ from ho2) hb2')
  clear ho2 hb2 hb2'
  refine mixN_step rfl ?_
  go_wp2_with (go_at_call 15; (with_reducible refine Calls.mono (HC.out.2.1 w2 H2.out.2) ?_); rintro e w3 ⟨rfl, hb3⟩)
  refine ⟨rfl, fun _ => anyW _, ?_⟩
  have H3 := Lib.hid (And.intro (H2.out.1.own.same (fun b hb => hb3.block b (H2.out.1.own.lt b hb).2) hb3.size) (below_chain' H2.out.2 hb3))
  clear hb3
  refine mixN_step rfl ?_
  go_wp2_with (refine wpList_build_dig rfl (.tmp 23) rfl r2 rfl HC.out.2.2.1.1 ?_)
  refine ⟨rfl, fun _ => anyW _, ?_⟩
  refine mixN_step rfl ?_
  go_wp2_with (at_builtin; refine wpList_append rfl (.tmp 19) (.tmp 24) 33 33 rfl W.heap.size 24 _ 32 32 Tryd.underlying33 infoD _ p1.length (bytesV p1.flatten) rfl (by exact H3.out.1.alloc _) _ 1 (bytesV r2) rfl (by exact src_dig (heap_alloc_new w3 _) HC.out.2.2.1.1) (by unfold maxLen; have := HL.out; omega) (by have := HL.out; omega) (by have := H3.out.2.size; simp; omega) ?_; intro A3 c3 w4 hown4 hg4 hbl4; have HA := Lib.hid (And.intro hown4 hg4); clear hown4 hg4 hbl4)
  refine ⟨rfl, fun _ => anyW _, ?_⟩
  refine mixN_free rfl rfl ?_
  go_big_quiet_step (fail)
  refine wpQuiet_nil ?_
  simp only [mixN]
  go_wp2_with fail
  go_ret
  have hll : (p1 ++ [r2]).length = p1.length + 1 := by simp
  refine ⟨A3, c3, by rw [hll]; rfl, ⟨?_, fun d hd => ?_⟩, ?_⟩
  · rw [hll, List.flatten_append, bytesV_append]
    simpa using HA.out.1
  · rcases List.mem_append.1 hd with hd | hd
    · exact H2.out.1.dig d hd
    · rw [List.mem_singleton.1 hd]; exact HC.out.2.2.1
  · exact (H3.out.2.alloc H3.out.2.size _).grown HA.out.2 (by have := H3.out.2.size; simp; omega) (fun k e => (H3.out.1.lt k e).1)
set_option maxRecDepth 100000 in
set_option maxHeartbeats 4000000 in
theorem rprove_right (N : Nat) (ih : ∀ (W : World) (v : Value) (hs : List Value) (ls : List (List Nat)) (i : Nat), ls.length ≤ N → i < ls.length → RowsFew ls → RowsAt W v hs ls → Calls Tryd.prog 20 #[.int .i64 i, v] W (DigsPost W (rproof i ls)))
    (W : World) (v : Value) (hs : List Value) (ls : List (List Nat)) (i : Nat) (hN : ls.length ≤ N + 1) (h2 : 2 ≤ ls.length) (hi : i < ls.length) (hik : ¬ i < Mk.half ls.length) (hM : RowsFew ls) (h : RowsAt W v hs ls) : Calls Tryd.prog 20 #[.int .i64 i, v] W (DigsPost W (rproof i ls)) := by
  have hm2 : 2 ≤ (ls.map leafH).length := by simpa using h2
  have hsp : rproof i ls = rproof (i - Mk.half ls.length) (ls.drop (Mk.half ls.length)) ++ [rootN ((ls.take (Mk.half ls.length)).map leafH)] := by
    unfold rproof proofN
    rw [Mk.proof_right _ _ hm2 (by rw [List.length_map]; exact hik), List.length_map, List.map_take, List.map_drop]
  obtain ⟨g, o, cap, rfl, hc1, hcm, -⟩ := h.sees.holds (by omega)
  have hk1 := Mk.half_pos ls.length
  have hk2 := Mk.half_lt h2
  have HH := fun w => half_all w ls.length (by have := hM.1; omega)
  obtain ⟨k, hk⟩ : ∃ k, k = Mk.half ls.length := ⟨_, rfl⟩
  rw [← hk] at hk1 hk2 hsp HH hik
  have hlM := hM.1
  have l1 : (ls.drop k).length ≤ N := by rw [List.length_drop]; omega
  have l2 : (ls.drop k).length = ls.length - k := by rw [List.length_drop]
  have hx : ((i - k : Nat) : Int) = (i : Int) - (k : Int) := by omega
  have c1 : ∀ w, Below W.heap.size W w → Calls Tryd.prog 20 #[.int .i64 ((i : Int) - (k : Int)), .slice (some ⟨g, o + k, none⟩) (ls.length - k) (cap - k)] w (DigsPost w (rproof (i - k) (ls.drop k))) := fun w hw => by
    rw [← hx]
    exact ih w _ _ (ls.drop k) (i - k) l1 (by omega) (hM.drop k) ((h.new hw).drop (by omega) _ (.inr rfl))
  have c2 : ∀ w, Below W.heap.size W w → Calls Tryd.prog 15 #[.slice (some ⟨g, o, none⟩) k cap] w (SumPost w (rootN ((ls.take k).map leafH))) := fun w hw =>
    rroot_of w _ _ (ls.take k) (hM.take k) ((h.new hw).take (by omega) ⟨by omega, Nat.le_refl _⟩)
  have g2 : Dig (rootN ((ls.take k).map leafH)) := dig_root _ _ (Nat.le_refl _) (dig_leaves _)
  obtain ⟨p1, hp1⟩ : ∃ p1, p1 = rproof (i - k) (ls.drop k) := ⟨_, rfl⟩
  obtain ⟨r2, hr2⟩ : ∃ r2, r2 = rootN ((ls.take k).map leafH) := ⟨_, rfl⟩
  rw [← hp1] at c1 hsp
  rw [← hr2] at c2 g2 hsp
  rw [hsp]
  have hpl : p1.length ≤ 1000000 := by rw [hp1]; have := rproof_len (i - k) (ls.drop k) (by omega); omega
  have HL := Lib.hid hpl
  clear hpl
  have HC := Lib.hid (And.intro c1 (And.intro c2 (And.intro g2 HH)))
  clear c1 c2 g2 HH hsp hp1 hr2 ih hM h hk hm2 l1 hx
  have hge : ¬ (ls.length : Int) < 2 := by omega
  have hck : ¬ cap = k := by omega
  have i1 : (0 : Int) ≤ (k : Int) := by omega
  have i2 : (k : Int) ≤ (cap : Int) := by omega
  have i3 : (k : Int) ≤ (ls.length : Int) := by omega
  have i4 : ¬ (i : Int) < (k : Int) := by omega
  have i5 : (i : Int) ≤ 1000000 := by omega
  go_enter Tryd.func20, Tryd.ntmps20
  go_wp2_with (go_at_call 37; (with_reducible refine Calls.mono (HC.out.2.2.2 _) ?_); rintro e w' ⟨rfl, rfl⟩)
  refine wp_region_mixS AnyW (fun _ => false) [0, 1, 2, 3, 4, 5, 7, 8, 9, 6, 10, 11, 12, 13] (by kernel_rfl) rfl (by kernel_rfl) (by kernel_rfl) (by kernel_rfl) (anyW _) ?_
  intro I hNI F hF
  simp only [pairOps, List.filterMap_cons, List.filterMap_nil, List.getElem?_cons_succ, List.getElem?_cons_zero, Option.map_some]
  repeat (refine mixN_free rfl rfl ?_; go_big_quiet_step (fail); refine wpQuiet_nil ?_)
  refine mixN_step rfl ?_
  go_wp2_with (go_at_call 20; (with_reducible refine Calls.mono (HC.out.1 W.drew ⟨rfl, rfl, rfl, Nat.le_refl _, fun _ _ => rfl⟩) ?_); rintro e w2 ⟨A2, c2, rfl, ho2, hb2⟩)
  have hb2' : Below W.heap.size W w2 := ⟨hb2.os, hb2.tape, hb2.output, hb2.size, hb2.block⟩
  refine ⟨rfl, fun _ => anyW _, ?_⟩
  have H2 := Lib.hid (And.intro (show OwnD w2 W.heap.size _ _ from ho2) hb2')
  clear ho2 hb2 hb2'
  refine mixN_step rfl ?_
  go_wp2_with (go_at_call 15; (with_reducible refine Calls.mono (HC.out.2.1 w2 H2.out.2) ?_); rintro e w3 ⟨rfl, hb3⟩)
  refine ⟨rfl, fun _ => anyW _, ?_⟩
  have H3 := Lib.hid (And.intro (H2.out.1.own.same (fun b hb => hb3.block b (H2.out.1.own.lt b hb).2) hb3.size) (below_chain' H2.out.2 hb3))
  clear hb3
  refine mixN_step rfl ?_
  go_wp2_with (refine wpList_build_dig rfl (.tmp 36) rfl r2 rfl HC.out.2.2.1.1 ?_)
  refine ⟨rfl, fun _ => anyW _, ?_⟩
  refine mixN_step rfl ?_
  go_wp2_with (at_builtin; refine wpList_append rfl (.tmp 32) (.tmp 37) 33 33 rfl W.heap.size 24 _ 32 32 Tryd.underlying33 infoD _ p1.length (bytesV p1.flatten) rfl (by exact H3.out.1.alloc _) _ 1 (bytesV r2) rfl (by exact src_dig (heap_alloc_new w3 _) HC.out.2.2.1.1) (by unfold maxLen; have := HL.out; omega) (by have := HL.out; omega) (by have := H3.out.2.size; simp; omega) ?_; intro A3 c3 w4 hown4 hg4 hbl4; have HA := Lib.hid (And.intro hown4 hg4); clear hown4 hg4 hbl4)
  refine ⟨rfl, fun _ => anyW _, ?_⟩
  refine mixN_free rfl rfl ?_
  go_big_quiet_step (fail)
  refine wpQuiet_nil ?_
  simp only [mixN]
  go_wp2_with fail
  go_ret
  have hll : (p1 ++ [r2]).length = p1.length + 1 := by simp
  refine ⟨A3, c3, by rw [hll]; rfl, ⟨?_, fun d hd => ?_⟩, ?_⟩
  · rw [hll, List.flatten_append, bytesV_append]
    simpa using HA.out.1
  · rcases List.mem_append.1 hd with hd | hd
    · exact H2.out.1.dig d hd
    · rw [List.mem_singleton.1 hd]; exact HC.out.2.2.1
  · exact (H3.out.2.alloc H3.out.2.size _).grown HA.out.2 (by have := H3.out.2.size; simp; omega) (fun k e => (H3.out.1.lt k e).1)
/-- The reference's proof. -/
theorem rprove_any : ∀ (N : Nat) (W : World) (v : Value) (hs : List Value) (ls : List (List Nat)) (i : Nat), ls.length ≤ N → i < ls.length → RowsFew ls → RowsAt W v hs ls → Calls Tryd.prog 20 #[.int .i64 i, v] W (DigsPost W (rproof i ls)) := by
  intro N
  induction N with
  | zero => intro W v hs ls i hN hi hM h; omega
  | succ N ih =>
    intro W v hs ls i hN hi hM h
    by_cases h2 : 2 ≤ ls.length
    · by_cases hik : i < Mk.half ls.length
      · exact rprove_left N ih W v hs ls i hN h2 hi hik hM h
      · exact rprove_right N ih W v hs ls i hN h2 hi hik hM h
    · have e : rproof i ls = [] := by
        unfold rproof proofN
        exact Mk.proof_few _ _ (by rw [List.length_map]; exact h2)
      rw [e]
      exact rprove_few W v hs ls i h (by omega)
end Go.Proofs.YtplcjgpmainbnaaDoor.RmW
