/- The reference's merkle: Deep, Root. -/
import Derived.Test.YtplcjgpmainbnaaDoorRmA
import Derived.Test.YtplcjgpmainbnaaDoorMkS
set_option linter.unusedVariables false
set_option linter.unusedSimpArgs false
namespace Go.Proofs.YtplcjgpmainbnaaDoor.RmW
open Go.RowKit OwnS ShaW MkW RsW QTail
attribute [local go_sem ↓] Kit.execOp_call_slot
attribute [local go_sem] Kit.callSlot_func
theorem deep_le : ∀ (f n i : Nat), Mk.deep f n i ≤ n := by
  intro f
  induction f with
  | zero => intro n i; exact Nat.zero_le _
  | succ f ih =>
    intro n i
    unfold Mk.deep
    by_cases h : n < 2
    · rw [if_pos h]; exact Nat.zero_le _
    · have g1 := Mk.half_pos n
      have g2 := Mk.half_lt (n := n) (by omega)
      rw [if_neg h]
      split
      · have := ih (Mk.half n) i; omega
      · have := ih (n - Mk.half n) (i - Mk.half n); omega
set_option maxRecDepth 100000 in
theorem deep_any : ∀ (f : Nat) (W : World) (n i : Nat), n ≤ f → n ≤ 9223372036854775807 → i ≤ 9223372036854775807 → Calls Tryd.prog 22 #[.int .i64 (n : Int), .int .i64 (i : Int)] W fun e w' => e = .returned (.int .i64 (Mk.deep f n i : Int)) ∧ W = w' := by
  intro f
  induction f with
  | zero =>
    intro W n i hf hn hi
    obtain rfl : n = 0 := by omega
    go_enter Tryd.func22, Tryd.ntmps22
    go_wp2_with fail
    go_ret
    exact ⟨rfl, rfl⟩
  | succ f ih =>
    intro W n i hf hn hi
    by_cases h : n < 2
    · have h' : (n : Int) < 2 := by omega
      have e : Mk.deep (f + 1) n i = 0 := by unfold Mk.deep; rw [if_pos h]
      have HE := Lib.hid e
      clear e ih
      go_enter Tryd.func22, Tryd.ntmps22
      go_wp2_with fail
      go_ret
      exact ⟨by rw [HE.out]; rfl, rfl⟩
    · have h' : ¬ (n : Int) < 2 := by omega
      have g1 := Mk.half_pos n
      have g2 := Mk.half_lt (n := n) (by omega)
      have hh := half_all W n hn
      obtain ⟨k, hk⟩ : ∃ k, k = Mk.half n := ⟨_, rfl⟩
      have e : Mk.deep (f + 1) n i = if i < k then 1 + Mk.deep f k i else 1 + Mk.deep f (n - k) (i - k) := by
        conv => lhs; unfold Mk.deep
        rw [if_neg h, ← hk]
      rw [← hk] at g1 g2 hh
      clear hk
      by_cases hik : i < k
      · have hik' : (i : Int) < (k : Int) := by omega
        have hd := ih W k i (by omega) (by omega) hi
        have hle := deep_le f k i
        rw [if_pos hik] at e
        obtain ⟨d, hd'⟩ : ∃ d, d = Mk.deep f k i := ⟨_, rfl⟩
        rw [← hd'] at hd e hle
        have hd1 : (d : Int) + 1 ≤ 9223372036854775807 := by omega
        have HE := Lib.hid (And.intro e (And.intro hh hd))
        clear e hh hd hd' ih
        go_enter Tryd.func22, Tryd.ntmps22
        go_wp2_with (first | (go_at_call 37; (with_reducible refine Calls.mono HE.out.2.1 ?_); rintro e w1 ⟨rfl, rfl⟩) | (go_at_call 22; (with_reducible refine Calls.mono HE.out.2.2 ?_); rintro e w1 ⟨rfl, rfl⟩))
        go_ret
        exact ⟨by rw [HE.out.1]; go_num, rfl⟩
      · have hik' : ¬ (i : Int) < (k : Int) := by omega
        have hd := ih W (n - k) (i - k) (by omega) (by omega) (by omega)
        have hle := deep_le f (n - k) (i - k)
        rw [if_neg hik] at e
        obtain ⟨d, hd'⟩ : ∃ d, d = Mk.deep f (n - k) (i - k) := ⟨_, rfl⟩
        rw [← hd'] at hd e hle
        have hd1 : (d : Int) + 1 ≤ 9223372036854775807 := by omega
        have e1 : ((n - k : Nat) : Int) = (n : Int) - (k : Int) := by omega
        have e2 : ((i - k : Nat) : Int) = (i : Int) - (k : Int) := by omega
        rw [e1, e2] at hd
        have q1 : (k : Int) ≤ (n : Int) := by omega
        have q2 : (k : Int) ≤ (i : Int) := by omega
        have q3 : (n : Int) ≤ 9223372036854775807 := by omega
        have q4 : (i : Int) ≤ 9223372036854775807 := by omega
        have HE := Lib.hid (And.intro e (And.intro hh hd))
        clear e hh hd hd' ih e1 e2
        go_enter Tryd.func22, Tryd.ntmps22
        go_wp2_with (first | (go_at_call 37; (with_reducible refine Calls.mono HE.out.2.1 ?_); rintro e w1 ⟨rfl, rfl⟩) | (go_at_call 22; (with_reducible refine Calls.mono HE.out.2.2 ?_); rintro e w1 ⟨rfl, rfl⟩))
        go_ret
        exact ⟨by rw [HE.out.1]; go_num, rfl⟩
set_option maxRecDepth 100000 in
theorem rroot_none (W : World) (v : Value) (hs : List Value) (h : RowsAt W v hs []) : Calls Tryd.prog 15 #[v] W (SumPost W (Sha.sum [2])) := by
  obtain ⟨A, c, rfl, -, -⟩ := h.sees.form
  clear h
  obtain ⟨D, hD⟩ : ∃ D, D = Sha.sum [2] := ⟨_, rfl⟩
  have hDl : D.length = 32 := by rw [hD]; exact sum_length _
  have HD := Lib.hid (And.intro hD hDl)
  rw [← hD]
  clear hD hDl
  go_enter Tryd.func15, Tryd.ntmps15
  go_upto_region 1 with (fail)
  obtain ⟨w1, hw1⟩ : ∃ w1, w1 = W.alloc (.cells zero32.toArray 24) := ⟨_, rfl⟩
  change Code.wp _ _ _ _ (W.alloc (.cells zero32.toArray 24))
  rw [← hw1]
  have hR : Hid (Res W w1) := by rw [hw1]; exact Res.made W
  clear hw1
  have hb1 : Below w1.heap.size w1 (w1.alloc (.cells #[.int .u8 2] 5)) := (Below.refl _ _).alloc (Nat.le_refl _) _
  have hR2 : Hid (Res W (w1.alloc (.cells #[.int .u8 2] 5))) := hR.out.new' hb1
  have hc := rsum_any (w1.alloc (.cells #[.int .u8 2] 5)) _ [2] (sees_block (l := [2]) (heap_alloc_new _ _) (by simp)) (fun x hx => by simp at hx; omega) (by simp)
  rw [← HD.out.1] at hc
  have HC := Lib.hid hc
  clear hc hb1
  go_wp2_with (first | (go_at_call 33; (with_reducible refine Calls.mono HC.out ?_); rintro e w3 ⟨rfl, hb3⟩; have hR3 : Hid (Res W w3) := hR2.out.new' hb3; clear hb3) | (refine wpList_store_dig rfl (.tmp 2) (.tmp 8) rfl W.heap.size rfl D rfl HD.out.2 zero32 hR3.out.blk zero32_length ?_))
  exact bodyPost_ret (ret_dig (by rfl) _ _ W.heap.size _ (by rfl) (hR3.out.back _) HD.out.2) rfl ⟨rfl, hR3.out.done _⟩
set_option maxRecDepth 100000 in
theorem rroot_one (W : World) (v : Value) (hs : List Value) (b : List Nat) (h : RowsAt W v hs [b]) (hn : b.length ≤ 1000000) : Calls Tryd.prog 15 #[v] W (SumPost W (leafH b)) := by
  obtain ⟨D, hD⟩ : ∃ D, D = leafH b := ⟨_, rfl⟩
  have hDl : D.length = 32 := by rw [hD]; exact (dig_leaf _).1
  have HD := Lib.hid (And.intro hD hDl)
  rw [← hD]
  obtain ⟨A, c, rfl, -, -⟩ := h.sees.form
  have H := Lib.hid h
  clear hD hDl h
  go_enter Tryd.func15, Tryd.ntmps15
  go_upto_region 1 with (fail)
  obtain ⟨w1, hw1⟩ : ∃ w1, w1 = W.alloc (.cells zero32.toArray 24) := ⟨_, rfl⟩
  change Code.wp _ _ _ _ (W.alloc (.cells zero32.toArray 24))
  rw [← hw1]
  have hR : Hid (Res W w1) := by rw [hw1]; exact Res.made W
  clear hw1
  obtain ⟨l, g, o, cap, A', c', hl', hv, hc, hse⟩ := (H.out.new hR.out.below).cell (i := 0) (by simp)
  obtain rfl : b = l := by simpa using hl'
  rw [Nat.add_zero] at hc
  injection hv with e1 e2 e3
  subst e1 e3
  clear e2 hl'
  have hcl := rleaf_any w1 _ b hse (H.out.byte b (by simp)) (by omega)
  rw [← HD.out.1] at hcl
  have HC := Lib.hid hcl
  clear hcl hse
  go_wp2_with (first | (go_at_call 13; (with_reducible refine Calls.mono HC.out ?_); rintro e w3 ⟨rfl, hb3⟩; have hR3 : Hid (Res W w3) := hR.out.new' hb3; clear hb3) | (refine wpList_store_dig rfl (.tmp 2) (.tmp 15) rfl W.heap.size rfl D rfl HD.out.2 zero32 hR3.out.blk zero32_length ?_))
  exact bodyPost_ret (ret_dig (by rfl) _ _ W.heap.size _ (by rfl) (hR3.out.back _) HD.out.2) rfl ⟨rfl, hR3.out.done _⟩
def RowsFew (ls : List (List Nat)) : Prop := ls.length ≤ 1000000 ∧ ∀ l ∈ ls, l.length ≤ 1000000
theorem RowsFew.take {ls : List (List Nat)} (h : RowsFew ls) (k : Nat) : RowsFew (ls.take k) := ⟨by have := h.1; rw [List.length_take]; omega, fun l hl => h.2 l (List.mem_of_mem_take hl)⟩
theorem RowsFew.drop {ls : List (List Nat)} (h : RowsFew ls) (k : Nat) : RowsFew (ls.drop k) := ⟨by have := h.1; rw [List.length_drop]; omega, fun l hl => h.2 l (List.mem_of_mem_drop hl)⟩
set_option maxRecDepth 100000 in
set_option maxHeartbeats 2000000 in
theorem rroot_more (N : Nat) (ih : ∀ (W : World) (v : Value) (hs : List Value) (ls : List (List Nat)), ls.length ≤ N → RowsFew ls → RowsAt W v hs ls → Calls Tryd.prog 15 #[v] W (SumPost W (rootN (ls.map leafH))))
    (W : World) (v : Value) (hs : List Value) (ls : List (List Nat)) (hN : ls.length ≤ N + 1) (h2 : 2 ≤ ls.length) (hM : RowsFew ls) (h : RowsAt W v hs ls) : Calls Tryd.prog 15 #[v] W (SumPost W (rootN (ls.map leafH))) := by
  obtain ⟨D, hD⟩ : ∃ D, D = rootN (ls.map leafH) := ⟨_, rfl⟩
  have hm2 : 2 ≤ (ls.map leafH).length := by simpa using h2
  have hsp : D = Mk.nodeH Sha.sum (rootN ((ls.take (Mk.half ls.length)).map leafH)) (rootN ((ls.drop (Mk.half ls.length)).map leafH)) := by
    rw [hD]; unfold rootN
    rw [Mk.root_split _ _ hm2, List.length_map, List.map_take, List.map_drop]
  rw [← hD]
  have hDl : Dig D := by rw [hsp]; exact dig_node _ _
  obtain ⟨g, o, cap, rfl, hc1, hcm, -⟩ := h.sees.holds (by omega)
  have hk1 := Mk.half_pos ls.length
  have hk2 := Mk.half_lt h2
  have HH := fun w => half_all w ls.length (by have := hM.1; omega)
  obtain ⟨k, hk⟩ : ∃ k, k = Mk.half ls.length := ⟨_, rfl⟩
  rw [← hk] at hk1 hk2 hsp HH
  have hlM := hM.1
  have H := Lib.hid (And.intro h (And.intro hsp (And.intro hDl (And.intro HH (And.intro ih hM)))))
  clear h hD ih hsp hDl HH hk hm2 hM
  have z0 : ¬ ((ls.length : Int) = 0) := by omega
  have z1 : ¬ ((ls.length : Int) = 1) := by omega
  have y0 : ¬ (ls.length = 0) := by omega
  have y1 : ¬ (ls.length = 1) := by omega
  go_enter Tryd.func15, Tryd.ntmps15
  go_upto_region 1 with (fail)
  obtain ⟨w1, hw1⟩ : ∃ w1, w1 = W.alloc (.cells zero32.toArray 24) := ⟨_, rfl⟩
  change Code.wp _ _ _ _ (W.alloc (.cells zero32.toArray 24))
  rw [← hw1]
  have hR : Hid (Res W w1) := by rw [hw1]; exact Res.made W
  clear hw1
  go_upto_region 6 with (go_at_call 37; (with_reducible refine Calls.mono (H.out.2.2.2.1 _) ?_); rintro e w' ⟨rfl, rfl⟩)
  have hw1 : Below W.heap.size W w1 := hR.out.below
  have h1 : RowsAt w1 (.slice (some ⟨g, o, none⟩) ls.length cap) hs ls := H.out.1.new hw1
  have D1 := h1.take (k := k) (by omega) (c := cap) ⟨by omega, Nat.le_refl _⟩
  have D2 := h1.drop (k := k) (by omega) ⟨g, o + k, none⟩ (.inr rfl)
  have hck : ¬ cap = k := by omega
  have i1 : (0 : Int) ≤ (k : Int) := by omega
  have i2 : (k : Int) ≤ (cap : Int) := by omega
  have i3 : (k : Int) ≤ (ls.length : Int) := by omega
  have l1 : (ls.take k).length ≤ N := by rw [List.length_take]; omega
  have l2 : (ls.drop k).length ≤ N := by rw [List.length_drop]; omega
  have g1 : Dig (rootN ((ls.take k).map leafH)) := dig_root _ _ (Nat.le_refl _) (dig_leaves _)
  have g2 : Dig (rootN ((ls.drop k).map leafH)) := dig_root _ _ (Nat.le_refl _) (dig_leaves _)
  have c1 := fun w v hs hl => H.out.2.2.2.2.1 w v hs (ls.take k) l1 (H.out.2.2.2.2.2.take k) hl
  have c2 := fun w v hs hl => H.out.2.2.2.2.1 w v hs (ls.drop k) l2 (H.out.2.2.2.2.2.drop k) hl
  have hsp := H.out.2.1
  obtain ⟨r1, hr1⟩ : ∃ r1, r1 = rootN ((ls.take k).map leafH) := ⟨_, rfl⟩
  obtain ⟨r2, hr2⟩ : ∃ r2, r2 = rootN ((ls.drop k).map leafH) := ⟨_, rfl⟩
  rw [← hr1] at g1 c1 hsp
  rw [← hr2] at g2 c2 hsp
  have hcall := fun (I : Type) (F : I → World) (hF : ∀ i, Below w1.heap.size w1 (F i)) (hFi : ∀ w', Below w1.heap.size w1 w' → ∃ i, w' = F i) (i : I) =>
    in_class (f := 15) hF hFi i (c1 (F i) _ _ (D1.new (hF i)))
  have hcall2 := fun (I : Type) (F : I → World) (hF : ∀ i, Below w1.heap.size w1 (F i)) (hFi : ∀ w', Below w1.heap.size w1 w' → ∃ i, w' = F i) (i : I) =>
    in_class (f := 15) hF hFi i (c2 (F i) _ _ (D2.new (hF i)))
  have hnode := fun (I : Type) (F : I → World) (hF : ∀ i, Below w1.heap.size w1 (F i)) (hFi : ∀ w', Below w1.heap.size w1 w' → ∃ i, w' = F i) (i : I) =>
    in_class (f := 17) hF hFi i (rnode_any (F i) _ _ g1 g2)
  rw [← hsp] at hnode
  have HC := Lib.hid (And.intro hcall (And.intro hcall2 hnode))
  clear hcall hcall2 hnode D1 D2 g1 g2 l1 l2 h1 hw1 hsp c1 c2 hr1 hr2
  refine QTail.wp_region_below_tail 9 w1.heap.size (by kernel_rfl) (by kernel_rfl) ?_
  intro I hNI F hF hFi
  have HF := Lib.hid (And.intro (HC.out.1 I F hF hFi) (And.intro (HC.out.2.1 I F hF hFi) (And.intro (HC.out.2.2 I F hF hFi) hF)))
  clear hF hFi
  simp only [List.take_succ_cons, List.take_zero, List.drop_succ_cons, List.drop_zero]
  repeat (go_big_quiet_step ((first | (go_at_call 15; first | with_reducible exact HF.out.1 _ | with_reducible exact HF.out.2.1 _) | (go_at_call 17; exact HF.out.2.2.1 _))))
  refine wpQuiet_nil ?_
  intro w4 hw'
  obtain ⟨j, hw''⟩ := hw'
  have hR4 : Hid (Res W w4) := by rw [hw'']; exact hR.out.new' (HF.out.2.2.2 j)
  clear hw''
  go_wp2_with (refine wpList_store_dig rfl (.tmp 2) (.tmp 27) rfl W.heap.size rfl D rfl H.out.2.2.1.1 zero32 hR4.out.blk zero32_length ?_)
  exact bodyPost_ret (ret_dig (by rfl) _ _ W.heap.size _ (by rfl) (hR4.out.back _) H.out.2.2.1.1) rfl ⟨rfl, hR4.out.done _⟩
/-- The reference's root of leaves. -/
theorem rroot_any : ∀ (N : Nat) (W : World) (v : Value) (hs : List Value) (ls : List (List Nat)), ls.length ≤ N → RowsFew ls → RowsAt W v hs ls → Calls Tryd.prog 15 #[v] W (SumPost W (rootN (ls.map leafH))) := by
  intro N
  induction N with
  | zero =>
    intro W v hs ls hN hM h
    obtain rfl : ls = [] := List.eq_nil_of_length_eq_zero (by omega)
    show Calls _ _ _ _ (SumPost W (rootN []))
    unfold rootN
    rw [Mk.root_nil]
    exact rroot_none W v hs h
  | succ N ih =>
    intro W v hs ls hN hM h
    match ls, h, hN, hM with
    | [], h, _, _ => show Calls _ _ _ _ (SumPost W (rootN [])); unfold rootN; rw [Mk.root_nil]; exact rroot_none W v hs h
    | [d], h, _, hM => show Calls _ _ _ _ (SumPost W (rootN [leafH d])); unfold rootN; rw [Mk.root_one]; exact rroot_one W v hs d h (hM.2 d (by simp))
    | a :: b :: r, h, hN, hM => exact rroot_more N ih W v hs _ hN (by simp) hM h
theorem rroot_of (W : World) (v : Value) (hs : List Value) (ls : List (List Nat)) (hM : RowsFew ls) (h : RowsAt W v hs ls) : Calls Tryd.prog 15 #[v] W (SumPost W (rootN (ls.map leafH))) := rroot_any ls.length W v hs ls (Nat.le_refl _) hM h
end Go.Proofs.YtplcjgpmainbnaaDoor.RmW
