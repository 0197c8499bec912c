/- merkle.root. -/
import Derived.Test.YtplcjgpmainbnaaDoorMkC
set_option linter.unusedVariables false
set_option linter.unusedSimpArgs false
namespace Go.Proofs.YtplcjgpmainbnaaDoor.MkW
open Go.RowKit OwnS ShaW
attribute [local go_sem ↓] Kit.execOp_call_slot
attribute [local go_sem] Kit.callSlot_func
/-- A list of digests. -/
structure DigsAt (w : World) (v : Value) (ds : List (List Nat)) : Prop where
  sees : Sees w 32 v ds.length (bytesV ds.flatten)
  dig : ∀ d ∈ ds, Dig d
theorem DigsAt.new {w w' : World} {v : Value} {ds : List (List Nat)} (h : DigsAt w v ds) (hb : Below w.heap.size w w') : DigsAt w' v ds := ⟨h.sees.new hb, h.dig⟩
theorem flat32 : ∀ {ds : List (List Nat)}, (∀ d ∈ ds, Dig d) → ds.flatten.length = 32 * ds.length
  | [], _ => rfl
  | d :: ds, h => by
    have h1 := (h d (List.mem_cons_self ..)).1
    have h2 := flat32 fun x hx => h x (List.mem_cons_of_mem _ hx)
    simp only [List.flatten_cons, List.length_append, List.length_cons, h1, h2]
    omega
theorem flat_take32 : ∀ {ds : List (List Nat)} (k : Nat), (∀ d ∈ ds, Dig d) → ds.flatten.take (32 * k) = (ds.take k).flatten
  | [], k, _ => by simp
  | d :: ds, 0, _ => by simp
  | d :: ds, k + 1, h => by
    have h1 := (h d (List.mem_cons_self ..)).1
    have h2 := flat_take32 k fun x hx => h x (List.mem_cons_of_mem _ hx)
    rw [List.flatten_cons, List.take_append, List.take_succ_cons, List.flatten_cons, ← h2, h1, List.take_of_length_le (by omega), show 32 * (k + 1) - 32 = 32 * k by omega]
theorem flat_drop32 : ∀ {ds : List (List Nat)} (k : Nat), (∀ d ∈ ds, Dig d) → ds.flatten.drop (32 * k) = (ds.drop k).flatten
  | [], k, _ => by simp
  | d :: ds, 0, _ => by simp
  | d :: ds, k + 1, h => by
    have h1 := (h d (List.mem_cons_self ..)).1
    have h2 := flat_drop32 k fun x hx => h x (List.mem_cons_of_mem _ hx)
    rw [List.flatten_cons, List.drop_append, List.drop_succ_cons, ← h2, h1, List.drop_eq_nil_of_le (by omega), show 32 * (k + 1) - 32 = 32 * k by omega]
    rfl
theorem flat_at32 {ds : List (List Nat)} (h : ∀ d ∈ ds, Dig d) {i : Nat} {d : List Nat} (hi : ds[i]? = some d) : (ds.flatten.drop (32 * i)).take 32 = d := by
  obtain ⟨h1, rfl⟩ := List.getElem?_eq_some_iff.1 hi
  rw [flat_drop32 i h, List.drop_eq_getElem_cons h1, List.flatten_cons]
  have := (h _ (List.getElem_mem h1)).1
  rw [List.take_append_of_le_length (by omega), List.take_of_length_le (by omega)]
/-- The i-th digest. -/
theorem DigsAt.cell {w : World} {v : Value} {ds : List (List Nat)} (h : DigsAt w v ds) {i : Nat} (hi : i < ds.length) : ∃ d g o cap, ds[i]? = some d ∧ Dig d ∧ v = .slice (some ⟨g, o, none⟩) ds.length cap ∧ ds.length ≤ cap ∧ w.rangeAt g (o + i * 32) (bytesV d) := by
  obtain ⟨g, o, cap, rfl, h1, -, h3⟩ := h.sees.holds (by omega)
  refine ⟨ds[i], g, o, cap, List.getElem?_eq_getElem hi, h.dig _ (List.getElem_mem hi), rfl, h1, ?_⟩
  have := rangeAt_take (k := 32) (rangeAt_drop (k := i * 32) h3)
  rw [bytesV_drop, bytesV_take, Nat.mul_comm, flat_at32 h.dig (List.getElem?_eq_getElem hi)] at this
  rw [Nat.mul_comm]
  exact this
theorem DigsAt.take {w : World} {g o cap k n : Nat} {ds : List (List Nat)} (h : DigsAt w (.slice (some ⟨g, o, none⟩) n cap) ds) (hk : k ≤ ds.length) (c : Nat) (hc : k ≤ c ∧ c ≤ cap) : DigsAt w (.slice (some ⟨g, o, none⟩) k c) (ds.take k) := by
  have hl : (ds.take k).length = k := by rw [List.length_take]; omega
  refine ⟨?_, fun d hd => h.dig d (List.mem_of_mem_take hd)⟩
  refine ⟨by rw [bytesV_length, flat32 fun d hd => h.dig d (List.mem_of_mem_take hd), hl]; omega, ?_⟩
  rcases h.sees.2 with ⟨h0, A', cap', e, hm⟩ | ⟨g', o', cap', h0, h1, h2, h3⟩
  · injection e with e1 e2 e3
    subst e3
    obtain rfl : k = 0 := by omega
    exact .inl ⟨by rw [hl], _, _, rfl, by omega⟩
  · injection h0 with e1 e2 e3
    injection e1 with e1
    injection e1 with e1 e4
    subst e1 e3 e4
    refine .inr ⟨g, o, c, by rw [hl], by omega, by omega, ?_⟩
    have := rangeAt_take (k := 32 * k) h3
    rwa [bytesV_take, flat_take32 k h.dig] at this
theorem DigsAt.drop {w : World} {g o cap k n : Nat} {ds : List (List Nat)} (h : DigsAt w (.slice (some ⟨g, o, none⟩) n cap) ds) (hk : k ≤ ds.length) (a : Addr) (ha : (cap = k ∧ a = ⟨g, o, none⟩) ∨ a = ⟨g, o + k * 32, none⟩) : DigsAt w (.slice (some a) (ds.length - k) (cap - k)) (ds.drop k) := by
  have hl : (ds.drop k).length = ds.length - k := by simp
  refine ⟨?_, fun d hd => h.dig d (List.mem_of_mem_drop hd)⟩
  refine ⟨by rw [bytesV_length, flat32 fun d hd => h.dig d (List.mem_of_mem_drop hd)]; omega, ?_⟩
  rcases h.sees.2 with ⟨h0, A', cap', e, hm⟩ | ⟨g', o', cap', h0, h1, h2, h3⟩
  · injection e with e1 e2 e3
    subst e3
    exact .inl ⟨by rw [hl]; omega, _, _, by rw [h0, Nat.zero_sub], by omega⟩
  · injection h0 with e1 e2 e3
    injection e1 with e1
    injection e1 with e1 e4
    subst e1 e3 e4
    rcases ha with ⟨hcap, rfl⟩ | rfl
    · have h4 : ds.length = k := by omega
      refine .inr ⟨g, o, _, by rw [hl], by omega, by omega, ?_⟩
      intro j u hj
      rw [List.drop_eq_nil_of_le (by omega)] at hj
      simp [bytesV] at hj
    · refine .inr ⟨g, _, _, by rw [hl], by omega, by omega, ?_⟩
      have := rangeAt_drop (k := 32 * k) h3
      rw [bytesV_drop, flat_drop32 k h.dig] at this
      rw [Nat.mul_comm]
      exact this
theorem DigsAt.form {w : World} {v : Value} {ds : List (List Nat)} (h : DigsAt w v ds) : ∃ A c, v = .slice A ds.length c ∧ ds.length ≤ c ∧ c ≤ maxLen := h.sees.form
/-- The root of digests. -/
abbrev rootN (ds : List (List Nat)) : List Nat := Mk.root (Sha.sum [2]) (Mk.nodeH Sha.sum) ds
theorem dig_root : ∀ (n : Nat) (ds : List (List Nat)), ds.length ≤ n → (∀ d ∈ ds, Dig d) → Dig (rootN ds) := by
  intro n ds hn h
  match ds, h with
  | [], _ => unfold rootN; rw [Mk.root_nil]; exact dig_sum _
  | [d], h => unfold rootN; rw [Mk.root_one]; exact h d (List.mem_cons_self ..)
  | a :: b :: r, _ => unfold rootN; rw [Mk.root_split _ _ (by simp)]; exact dig_node _ _
/-- A contract that answers by value, within a class of worlds. -/
theorem in_class {w : World} {f : FuncId} {args : Array Value} {D : List Nat} {I : Type} {F : I → World} (hF : ∀ i, Below w.heap.size w (F i)) (hFi : ∀ w', Below w.heap.size w w' → ∃ i, w' = F i) (i : I) (h : Calls Tryd.prog f args (F i) (SumPost (F i) D)) :
    Calls Tryd.prog f args (F i) (fun e w'' => e = .returned (digV D) ∧ ∃ j, w'' = F j) :=
  h.mono fun e w'' ⟨he, hw⟩ => ⟨he, hFi _ ((hF i).trans (hw.mono (hF i).size))⟩
set_option maxRecDepth 100000 in
theorem root_none (W : World) (v : Value) (hG : Glob W) (h : DigsAt W v []) : Calls Tryd.prog 35 #[v] W (SumPost W (Sha.sum [2])) := by
  obtain ⟨A, c, rfl, -, -⟩ := h.form
  clear h
  go_enter Tryd.func35, Tryd.ntmps35
  go_upto_region 1 with (fail)
  obtain ⟨w1, hw1⟩ : ∃ w1, w1 = W.alloc (.cells zero32.toArray 24) := ⟨_, rfl⟩
  change (Code.region _ _ _).wp _ _ _ (W.alloc (.cells zero32.toArray 24))
  rw [← hw1]
  have hR : Hid (Res W w1) := by rw [hw1]; exact Res.made W
  clear hw1
  have hb2 : Below w1.heap.size w1 (w1.alloc (.cells #[.int .u8 2] 5)) := (Below.refl _ _).alloc (Nat.le_refl _) _
  have hc := sum_any (w1.alloc (.cells #[.int .u8 2] 5)) (.slice (some ⟨w1.heap.size, 0, none⟩) 1 1) [2] ((hG.new hR.out.below).new hb2) (sees_block (l := [2]) (heap_alloc_new w1 _) (by simp)) (fun x hx => by simp at hx; omega) (by simp)
  have HC := Lib.hid (And.intro hc hb2)
  clear hc hb2 hG
  go_wp2_with (first | (go_at_call 32; (with_reducible refine Calls.mono HC.out.1 ?_); rintro e w3 ⟨rfl, hb3⟩; have hR3 : Hid (Res W w3) := (hR.out.new' HC.out.2).new' hb3; clear hb3) | (refine wpList_store_dig rfl (.tmp 2) (.tmp 9) rfl W.heap.size rfl _ rfl (sum_length _) zero32 hR3.out.blk zero32_length ?_))
  exact bodyPost_ret (ret_dig (by rfl) _ _ W.heap.size _ (by rfl) (hR3.out.back _) (sum_length _)) rfl ⟨rfl, hR3.out.done _⟩
set_option maxRecDepth 100000 in
theorem root_one (W : World) (v : Value) (d : List Nat) (h : DigsAt W v [d]) : Calls Tryd.prog 35 #[v] W (SumPost W d) := by
  obtain ⟨d', g, o, cap, hd, hdd, rfl, hcap, hr⟩ := h.cell (i := 0) (by simp)
  injection hd with hd
  subst hd
  have hl := hdd.1
  simp only [Nat.zero_mul, Nat.add_zero] at hr
  clear h
  go_enter Tryd.func35, Tryd.ntmps35
  go_upto_region 1 with (fail)
  obtain ⟨w1, hw1⟩ : ∃ w1, w1 = W.alloc (.cells zero32.toArray 24) := ⟨_, rfl⟩
  change (Code.region _ _ _).wp _ _ _ (W.alloc (.cells zero32.toArray 24))
  rw [← hw1]
  have hR : Hid (Res W w1) := by rw [hw1]; exact Res.made W
  have hr1 : Hid (w1.rangeAt g o (bytesV d)) := by rw [hw1]; exact World.rangeAt_alloc hr _
  have HL := Lib.hid hl
  clear hw1 hr hl hdd
  go_wp2_with (first | (refine wpList_load_dig rfl (.tmp 13) rfl g o rfl d hr1.out HL.out ?_) | (refine wpList_store_dig rfl (.tmp 2) (.tmp 14) rfl W.heap.size rfl _ rfl HL.out zero32 hR.out.blk zero32_length ?_))
  exact bodyPost_ret (ret_dig (by rfl) _ _ W.heap.size _ (by rfl) (hR.out.back _) HL.out) rfl ⟨rfl, hR.out.done _⟩
set_option maxRecDepth 100000 in
set_option maxHeartbeats 2000000 in
theorem root_more (N : Nat) (ih : ∀ (W : World) (v : Value) (ds : List (List Nat)), ds.length ≤ N → ds.length ≤ 1000000000 → Glob W → DigsAt W v ds → Calls Tryd.prog 35 #[v] W (SumPost W (rootN ds)))
    (W : World) (v : Value) (ds : List (List Nat)) (hN : ds.length ≤ N + 1) (h2 : 2 ≤ ds.length) (hNM : N ≤ 1000000000) (hM : ds.length ≤ 1000000000) (hG : Glob W) (h : DigsAt W v ds) : Calls Tryd.prog 35 #[v] W (SumPost W (rootN ds)) := by
  obtain ⟨D, hD⟩ : ∃ D, D = rootN ds := ⟨_, rfl⟩
  rw [← hD]
  obtain ⟨g, o, cap, rfl, hc1, -, -⟩ := h.sees.holds (by omega)
  have hk1 := Mk.half_pos ds.length
  have hk2 := Mk.half_lt h2
  obtain ⟨k, hk⟩ : ∃ k, k = Mk.half ds.length := ⟨_, rfl⟩
  rw [← hk] at hk1 hk2
  have H := Lib.hid (And.intro hG (And.intro h (And.intro hD (And.intro hk ih))))
  clear hG h hD ih
  have z0 : ¬ ((ds.length : Int) = 0) := by omega
  have z1 : ¬ ((ds.length : Int) = 1) := by omega
  have y0 : ¬ (ds.length = 0) := by omega
  have y1 : ¬ (ds.length = 1) := by omega
  have HH := Lib.hid (half_any W ds.length (by omega))
  rw [← hk] at HH
  clear hk
  go_enter Tryd.func35, Tryd.ntmps35
  go_upto_region 1 with (fail)
  obtain ⟨w1, hw1⟩ : ∃ w1, w1 = W.alloc (.cells zero32.toArray 24) := ⟨_, rfl⟩
  change (Code.region _ _ _).wp _ _ _ (W.alloc (.cells zero32.toArray 24))
  rw [← hw1]
  have hR : Hid (Res W w1) := by rw [hw1]; exact Res.made W
  clear hw1
  have HH := Lib.hid (half_any w1 ds.length (by omega))
  rw [← H.out.2.2.2.1] at HH
  go_upto_region 7 with (go_at_call 53; (with_reducible refine Calls.mono HH.out ?_); rintro e w' ⟨rfl, rfl⟩)
  have hw1 : Below W.heap.size W w1 := hR.out.below
  have h1 : DigsAt w1 (.slice (some ⟨g, o, none⟩) ds.length cap) ds := H.out.2.1.new hw1
  have D1 := h1.take (k := k) (by omega) cap ⟨by omega, Nat.le_refl _⟩
  have D2 := h1.drop (k := k) (by omega) ⟨g, o + k * 32, none⟩ (.inr rfl)
  have hck : ¬ cap = k := by omega
  have i1 : (0 : Int) ≤ (k : Int) := by omega
  have i2 : (k : Int) ≤ (cap : Int) := by omega
  have i3 : (k : Int) ≤ (ds.length : Int) := by omega
  have hcall := fun (I : Type) (F : I → World) (hF : ∀ i, Below w1.heap.size w1 (F i)) (hFi : ∀ w', Below w1.heap.size w1 w' → ∃ i, w' = F i) (v : Value) (es : List (List Nat)) (he : DigsAt w1 v es) (hl : es.length ≤ N) (hm : es.length ≤ 1000000000) (i : I) =>
    in_class (f := 35) hF hFi i (H.out.2.2.2.2 (F i) v es hl hm ((H.out.1.new hw1).new (hF i)) (he.new (hF i)))
  have hnode := fun (I : Type) (F : I → World) (hF : ∀ i, Below w1.heap.size w1 (F i)) (hFi : ∀ w', Below w1.heap.size w1 w' → ∃ i, w' = F i) (a b : List Nat) (ha : Dig a) (hb : Dig b) (i : I) =>
    in_class (f := 16) hF hFi i (node_any (F i) a b ((H.out.1.new hw1).new (hF i)) ha hb)
  have g1 := dig_root _ (ds.take k) (Nat.le_refl _) D1.dig
  have g2 := dig_root _ (ds.drop k) (Nat.le_refl _) D2.dig
  have l1 : (ds.take k).length ≤ N := by rw [List.length_take]; omega
  have l2 : (ds.drop k).length ≤ N := by rw [List.length_drop]; omega
  have HC := Lib.hid (And.intro hcall hnode)
  have HD := Lib.hid (And.intro D1 (And.intro D2 (And.intro g1 (And.intro g2 (And.intro l1 l2)))))
  have HN : Hid (N ≤ 1000000000) := hNM
  clear hcall hnode D1 D2 g1 g2 l1 l2 h1 hw1 HH
  refine QTail.wp_region_below_tail 9 w1.heap.size (by kernel_rfl) (by kernel_rfl) ?_
  intro I hNI F hF hFi
  have HF := Lib.hid (And.intro (HC.out.1 I F hF hFi) (And.intro (HC.out.2 I F hF hFi) hF))
  clear hF hFi
  simp only [List.take_succ_cons, List.take_zero, List.drop_succ_cons, List.drop_zero]
  repeat (go_big_quiet_step ((first | (go_at_call 35; exact HF.out.1 _ _ (by first | exact HD.out.1 | exact HD.out.2.1) (by first | exact HD.out.2.2.2.2.1 | exact HD.out.2.2.2.2.2) (by first | exact Nat.le_trans HD.out.2.2.2.2.1 HN.out | exact Nat.le_trans HD.out.2.2.2.2.2 HN.out) _) | (go_at_call 16; exact HF.out.2.1 _ _ HD.out.2.2.1 HD.out.2.2.2.1 _))))
  refine wpQuiet_nil ?_
  intro w4 hw'
  obtain ⟨j, hw''⟩ := hw'
  have hR4 : Hid (Res W w4) := by rw [hw'']; exact hR.out.new' (HF.out.2.2 j)
  clear hw''
  go_wp2_with (refine wpList_store_dig rfl (.tmp 2) (.tmp 26) rfl W.heap.size rfl _ rfl (dig_node _ _).1 zero32 hR4.out.blk zero32_length ?_)
  refine bodyPost_ret (ret_dig (by rfl) _ _ W.heap.size _ (by rfl) (hR4.out.back _) (dig_node _ _).1) rfl ⟨?_, hR4.out.done _⟩
  rw [H.out.2.2.1]
  unfold rootN
  rw [Mk.root_split _ _ h2, ← H.out.2.2.2.1]
/-- The root of digests. -/
theorem root_any : ∀ (N : Nat) (W : World) (v : Value) (ds : List (List Nat)), ds.length ≤ N → ds.length ≤ 1000000000 → Glob W → DigsAt W v ds → Calls Tryd.prog 35 #[v] W (SumPost W (rootN ds)) := by
  intro N
  induction N with
  | zero =>
    intro W v ds hN hM hG h
    obtain rfl : ds = [] := List.eq_nil_of_length_eq_zero (by omega)
    unfold rootN
    rw [Mk.root_nil]
    exact root_none W v hG h
  | succ N ih =>
    intro W v ds hN hM hG h
    by_cases hs : N ≤ 1000000000
    · match ds, h, hN, hM with
      | [], h, _, _ => unfold rootN; rw [Mk.root_nil]; exact root_none W v hG h
      | [d], h, _, _ => unfold rootN; rw [Mk.root_one]; exact root_one W v d h
      | a :: b :: r, h, hN, hM => exact root_more N ih W v _ hN (by simp) hs hM hG h
    · exact ih W v ds (by omega) hM hG h
theorem root_of (W : World) (v : Value) (ds : List (List Nat)) (hM : ds.length ≤ 1000000000) (hG : Glob W) (h : DigsAt W v ds) : Calls Tryd.prog 35 #[v] W (SumPost W (rootN ds)) := root_any ds.length W v ds (Nat.le_refl _) hM hG h
end Go.Proofs.YtplcjgpmainbnaaDoor.MkW
