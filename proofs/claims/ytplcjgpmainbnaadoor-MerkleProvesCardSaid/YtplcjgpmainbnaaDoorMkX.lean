/- merkle.Fold. -/
import Derived.Test.YtplcjgpmainbnaaDoorMkJ
set_option linter.unusedVariables false
set_option linter.unusedSimpArgs false
namespace Go.Proofs.YtplcjgpmainbnaaDoor.MkW
open Go.RowKit OwnS ShaW RevL QTail
attribute [local go_sem ↓] Kit.execOp_call_slot
attribute [local go_sem] Kit.callSlot_func
theorem wpList_load_part {w : World} {ops : Array Oper} {rest : List Oper} {o : Oper} {a : Act} {Q : Exit → Act → World → Prop} (hgd : o.guard = none) (x : Operand) (ho : o.op = .load 73 x) (g p : Nat) (hx : a.eval x = .pointer (some ⟨g, p, none⟩)) (D : Part) (hg : w.rangeAt g p (partC D))
    (h : wpList Tryd.prog ops Q rest (a.put o.dst (partV D)) w) : wpList Tryd.prog ops Q (o :: rest) a w :=
  wpList_load_mid hgd 73 x ho g p hx (partC D) _ hg Tryd.underlying73 rfl part_size h
/-- A digest out of a result's cells, and another result. -/
theorem ret_dig2 {fn : Func} {p q : Tmp} (h : fn.results = #[.cell p 24, .tmp q]) (tmps : Array Value) (w : World) (g : Nat) (D : List Nat) (hp : tmps.getD p undef = .pointer (some ⟨g, 0, none⟩)) (hg : w.rangeAt g 0 (bytesV D)) (hD : D.length = 32) :
    (results fn tmps).run Tryd.prog w = .ok (.tuple #[digV D, tmps.getD q undef]) w := by
  have hp' : tmps[p]?.getD undef = .pointer (some ⟨g, 0, none⟩) := by simpa using hp
  have := run_loadVar_mid (P := Tryd.prog) w g 0 24 (bytesV D) _ hg Tryd.underlying24 rfl (by rw [bytesV_length, hD]; exact dig_info)
  simp [results, h, hp', asAddr, this, digV]
/-- A digest's variable, made and filled. -/
theorem dig_cut (w1 : World) (D : List Nat) : ∃ x, x = (w1.alloc (.cells zero32.toArray 24)).setRow w1.heap.size (bytesV D).toArray ∧ x.heap[w1.heap.size]? = some (.cells (bytesV D).toArray 24 (0, 0)) ∧ Below w1.heap.size w1 x ∧ w1.heap.size < x.heap.size := by
  have h1 := setRow_heap (w1.alloc (.cells zero32.toArray 24)) w1.heap.size zero32.toArray (bytesV D).toArray 24 (0, 0) (heap_alloc_new _ _)
  exact ⟨_, rfl, h1, below_setRow ((Below.refl _ _).alloc (Nat.le_refl _) _) _ _ (Nat.le_refl _), (Array.getElem?_eq_some_iff.1 h1).1⟩
theorem block_lt_of_range {w : World} {g o : Nat} {xs : List Value} (h : w.rangeAt g o xs) (hx : 0 < xs.length) : g < w.heap.size :=
  block_lt_of_cell (h 0 _ (List.getElem?_eq_getElem hx))
theorem below_chain' {W w w' : World} {B : Nat} (h : Below B W w) (k : Below w.heap.size w w') (hB : B ≤ W.heap.size := by exact Nat.le_refl _) : Below B W w' := h.trans (k.mono (Nat.le_trans hB h.size))
theorem _root_.Go.Proofs.YtplcjgpmainbnaaDoor.OwnS.Keeps.setRow {w w1 : World} {S : Nat → Prop} (h : Keeps w w1 S) {g : Nat} (hg : S g) (cs : Array Value) : Keeps w (w1.setRow g cs) S :=
  ⟨h.os, h.tape, h.output, by simpa using h.size, fun b hb hS => (setRow_other w1 g b cs (by rintro rfl; exact hS hg)).trans (h.block b hb hS)⟩
def zeroD : List Nat := List.replicate 32 0
theorem zero_dig : Dig zeroD := ⟨rfl, fun x hx => by rw [List.eq_of_mem_replicate hx]; omega⟩
theorem zero_cells : zero32 = bytesV zeroD := rfl
def sidesOf (n i : Nat) : List Bool := ((partsOf n i).map (·.2.2)).reverse
def foldN (n i : Nat) (ps : List (List Nat)) (x : List Nat) : List Nat := Mk.foldUp (Mk.nodeH Sha.sum) (sidesOf n i) ps x
def FoldPost (W : World) (D : List Nat) (c : Int) (e : Ending) (w' : World) : Prop := e = .returned (.tuple #[digV D, .int .i64 c]) ∧ Below W.heap.size W w'
theorem foldUp_dig : ∀ (ws : List Bool) (qs : List (List Nat)) (x : List Nat), Dig x → Dig (Mk.foldUp (Mk.nodeH Sha.sum) ws qs x)
  | [], qs, x, h => by cases qs <;> exact h
  | w :: ws, [], x, h => h
  | w :: ws, q :: qs, x, h => by
    unfold Mk.foldUp
    refine foldUp_dig ws qs _ ?_
    split
    · exact dig_node _ _
    · exact dig_node _ _
theorem foldUp_take {ws : List Bool} {qs : List (List Nat)} {x : List Nat} {k : Nat} {w : Bool} {q : List Nat} (hw : ws[k]? = some w) (hq : qs[k]? = some q) :
    Mk.foldUp (Mk.nodeH Sha.sum) (ws.take (k + 1)) (qs.take (k + 1)) x = if w then Mk.nodeH Sha.sum q (Mk.foldUp (Mk.nodeH Sha.sum) (ws.take k) (qs.take k) x) else Mk.nodeH Sha.sum (Mk.foldUp (Mk.nodeH Sha.sum) (ws.take k) (qs.take k) x) q := by
  obtain ⟨h1, rfl⟩ := List.getElem?_eq_some_iff.1 hw
  obtain ⟨h2, rfl⟩ := List.getElem?_eq_some_iff.1 hq
  rw [List.take_succ_eq_append_getElem h1, List.take_succ_eq_append_getElem h2, Mk.foldUp_append _ _ _ _ _ _ (by rw [List.length_take, List.length_take]; omega)]
set_option maxRecDepth 100000 in
/-- There is no such leaf. -/
theorem fold_none (W : World) (n i : Int) (v p : Value) (h : i < 0 ∨ n ≤ i) : Calls Tryd.prog 21 #[.int .i64 n, .int .i64 i, v, p] W (FoldPost W zeroD 10) := by
  by_cases h0 : i < 0
  · go_enter Tryd.func21, Tryd.ntmps21
    go_upto_region 1 with (fail)
    obtain ⟨w1, hw1⟩ : ∃ w1, w1 = W.alloc (.cells zero32.toArray 24) := ⟨_, rfl⟩
    change Code.wp _ _ _ _ (W.alloc (.cells zero32.toArray 24))
    rw [← hw1]
    have hR : Hid (Res W w1) := by rw [hw1]; exact Res.made W
    clear hw1
    go_step3
    go_wp2_with (refine wpList_store_dig rfl (.tmp 8) (.tmp 21) rfl W.heap.size rfl zeroD (by rfl) rfl zero32 hR.out.blk zero32_length ?_)
    try (rw [Exit.noGoto_ret])
    refine bodyPost_ret (ret_dig2 (by rfl) _ _ W.heap.size zeroD (by rfl) (rangeAt_whole (hR.out.back _)) rfl) rfl ⟨rfl, hR.out.done _⟩
  · have h1 : n ≤ i := by omega
    go_enter Tryd.func21, Tryd.ntmps21
    go_upto_region 1 with (fail)
    obtain ⟨w1, hw1⟩ : ∃ w1, w1 = W.alloc (.cells zero32.toArray 24) := ⟨_, rfl⟩
    change Code.wp _ _ _ _ (W.alloc (.cells zero32.toArray 24))
    rw [← hw1]
    have hR : Hid (Res W w1) := by rw [hw1]; exact Res.made W
    clear hw1
    go_step3
    go_wp2_with (refine wpList_store_dig rfl (.tmp 8) (.tmp 21) rfl W.heap.size rfl zeroD (by rfl) rfl zero32 hR.out.blk zero32_length ?_)
    try (rw [Exit.noGoto_ret])
    refine bodyPost_ret (ret_dig2 (by rfl) _ _ W.heap.size zeroD (by rfl) (rangeAt_whole (hR.out.back _)) rfl) rfl ⟨rfl, hR.out.done _⟩
set_option maxRecDepth 100000 in
set_option maxHeartbeats 2000000 in
/-- Not as many digests as the way has parts. -/
theorem fold_wrong (W : World) (n i : Nat) (v p : Value) (A : Option Addr) (k c : Nat) (hn : n ≤ 9223372036854775807) (hin : i < n) (hlen : (partsOf n i).length ≠ k) : Calls Tryd.prog 21 #[.int .i64 n, .int .i64 i, v, .slice A k c] W (FoldPost W zeroD 23) := by
  have g0 : ¬ (i : Int) < 0 := by omega
  have g1 : ¬ (n : Int) ≤ (i : Int) := by omega
  obtain ⟨L, hL⟩ : ∃ L, L = partsOf n i := ⟨_, rfl⟩
  have hcall := fun (w : World) (qn qi : Nat) h1 h2 => collect_parts w n i qn qi hn hin h1 h2 (by have := partsOf_log n i hn; omega)
  rw [← hL] at hcall hlen
  have hd : decide ((L.length : Int) = (k : Int)) = false := by rw [decide_eq_false_iff_not]; omega
  have hne : ¬ ((L.length : Int) = (k : Int)) := by omega
  have hne2 : ¬ (L.length = k) := hlen
  have H := Lib.hid hcall
  clear hcall hL hlen
  go_enter Tryd.func21, Tryd.ntmps21
  go_upto_region 1 with (fail)
  obtain ⟨w1, hw1⟩ : ∃ w1, w1 = W.alloc (.cells zero32.toArray 24) := ⟨_, rfl⟩
  change Code.wp _ _ _ _ (W.alloc (.cells zero32.toArray 24))
  rw [← hw1]
  have hR : Hid (Res W w1) := by rw [hw1]; exact Res.made W
  clear hw1
  go_step3
  go_wp2_with (first | (go_at_call 42; (with_reducible refine Calls.mono (beside_post _ _ _) ?_); rintro e w2 ⟨q, -, rfl, hb2, -, hc1, hc2⟩; have HC := Lib.hid (H.out w2 q (q + 1) hc1 hc2); have hR2 := Lib.hid (hR.out.new' hb2); clear hb2 hc1 hc2) | (go_at_call 41; (with_reducible refine Calls.mono HC.out ?_); rintro e w3 ⟨A3, c3, rfl, -, hb3⟩; have hR3 := Lib.hid (hR2.out.new' hb3); clear hb3) | (refine wpList_store_dig rfl (.tmp 8) (.tmp 31) rfl W.heap.size rfl zeroD (by rfl) rfl zero32 hR3.out.blk zero32_length ?_))
  try (rw [Exit.noGoto_ret])
  refine bodyPost_ret (ret_dig2 (by rfl) _ _ W.heap.size zeroD (by rfl) (rangeAt_whole (hR3.out.back _)) rfl) rfl ⟨rfl, hR3.out.done _⟩
set_option maxRecDepth 100000 in
set_option maxHeartbeats 4000000 in
theorem fold_some (W : World) (n i : Nat) (bv pv : Value) (b : List Nat) (ps : List (List Nat)) (hn : n ≤ 9223372036854775807) (hin : i < n) (hG : Glob W) (hb : Sees W 1 bv b.length (bytesV b)) (hbb : ∀ x ∈ b, x < 256) (hbn : b.length ≤ 10000000) (hp : DigsAt W pv ps) (hlen : (partsOf n i).length = ps.length) :
    Calls Tryd.prog 21 #[.int .i64 n, .int .i64 i, bv, pv] W (FoldPost W (foldN n i ps (leafH b)) 0) := by
  obtain ⟨A, c, rfl, hc1, hc2⟩ := hp.form
  have g0 : ¬ (i : Int) < 0 := by omega
  have g1 : ¬ (n : Int) ≤ (i : Int) := by omega
  have hlog := partsOf_log n i hn
  obtain ⟨D, hD⟩ : ∃ D, D = foldN n i ps (leafH b) := ⟨_, rfl⟩
  rw [← hD]
  unfold foldN sidesOf at hD
  obtain ⟨L, hL⟩ : ∃ L, L = partsOf n i := ⟨_, rfl⟩
  have hcall := fun (w : World) (qn qi : Nat) h1 h2 => collect_parts w n i qn qi hn hin h1 h2 (by have := partsOf_log n i hn; omega)
  rw [← hL] at hcall hlen hD hlog
  rw [← hlen]
  have hleaf := fun (w : World) (hw : Below W.heap.size W w) => leaf_any w bv b (hG.new hw) (hb.new hw) hbb hbn
  obtain ⟨d, hd⟩ : ∃ d, d = leafH b := ⟨_, rfl⟩
  have hdd : Dig d := by rw [hd]; exact dig_leaf _
  rw [show Sha.sum (0 :: b) = d by rw [hd]; rfl] at hleaf
  rw [← hd] at hD
  have hrev := fun (w : World) (base : Nat) (v : Value) h => reverse_parts w base v L h (by omega)
  have H := Lib.hid (And.intro hcall (And.intro hrev (And.intro hleaf (And.intro hdd (And.intro hD (And.intro hlen (And.intro hG hp)))))))
  clear hcall hrev hleaf hdd hD hlen hG hb hbb hp hd hL
  go_enter Tryd.func21, Tryd.ntmps21
  go_upto_region 1 with (fail)
  obtain ⟨w1, hw1⟩ : ∃ w1, w1 = W.alloc (.cells zero32.toArray 24) := ⟨_, rfl⟩
  change Code.wp _ _ _ _ (W.alloc (.cells zero32.toArray 24))
  rw [← hw1]
  have hR : Hid (Res W w1) := by rw [hw1]; exact Res.made W
  clear hw1
  go_step3
  go_upto_region 8 with (first | (go_at_call 42; (with_reducible refine Calls.mono (beside_post _ _ _) ?_); rintro e w2 ⟨q, -, rfl, hb2, -, hc1, hc2⟩; have HC := Lib.hid (H.out.1 w2 q (q + 1) hc1 hc2); have hR2 := Lib.hid (hR.out.new' hb2); clear hb2 hc1 hc2) | (go_at_call 41; (with_reducible refine Calls.mono HC.out ?_); rintro e w3 ⟨A3, c3, rfl, ho3, hb3⟩; have H3 := Lib.hid (And.intro (H.out.2.1 _ _ _ ho3) (And.intro ho3 (And.intro (hR2.out.new' hb3) (And.intro hR2.out.size hb3.size)))); clear hb3 ho3) | (go_at_call 43; (with_reducible refine Calls.mono H3.out.1 ?_); rintro e w4 ⟨rfl, ho4, hk4⟩; have H4 := Lib.hid (And.intro ho4 (H3.out.2.2.1.mid (hk4.below (B := w2.heap.size) H3.out.2.2.2.2 (by intro b hb e; have := (H3.out.2.1.lt _ e).1; omega)) H3.out.2.2.2.1)); clear ho4 hk4) | (go_at_call 12; (with_reducible refine Calls.mono (H.out.2.2.1 _ H4.out.2.below) ?_); rintro e w5 ⟨rfl, hb5⟩; have H5 := Lib.hid (And.intro (H4.out.1.sees.new hb5) (And.intro (H4.out.2.new' hb5) (And.intro hb5.size H4.out.1.lt))); clear hb5) | (refine wpList_store_dig rfl (.tmp 11) (.tmp 35) rfl w5.heap.size rfl d rfl H.out.2.2.2.1.1 zero32 (by exact heap_alloc_new _ _) zero32_length ?_))
  change Code.wp _ _ _ _ ((w5.alloc (.cells zero32.toArray 24)).setRow w5.heap.size (bytesV d).toArray)
  obtain ⟨x1, hx1, hv1, hB1, hs1⟩ := dig_cut w5 d
  rw [← hx1]
  obtain ⟨R, hq1⟩ : ∃ R, R = w5.heap.size := ⟨_, rfl⟩
  have hs5 : ∀ k, A3 = some k → True := fun _ _ => trivial
  have hway := H5.out.1.new hB1
  have hR1 := H5.out.2.1.new' hB1
  have hRn : W.heap.size < R := by rw [hq1]; exact H5.out.2.1.size
  rw [← hq1] at hv1 hs1 hB1 ⊢
  have HR5 := Lib.hid hq1
  have HX := Lib.hid (And.intro hway (And.intro hR1 (And.intro hs1 (And.intro hv1 hRn))))
  clear hway hR1 hs1 hB1 hv1 hRn hs5 hx1 hq1
  go_step3
  go_wp2_with fail
  have hlt5 : ∀ b, (Value.slice A3 L.length c3).ownBlock = some b → b < R := fun b e => by have := (H5.out.2.2.2 b e).2; have := H5.out.2.2.1; have := HR5.out; omega
  have HL5 := Lib.hid hlt5
  clear hlt5
  go_loopw [38] (fun vk wr => ∃ k : Nat, k ≤ L.length ∧ vk = .int .i64 k ∧ Hid (Keeps x1 wr (· = R) ∧ wr.heap[R]? = some (.cells (bytesV (Mk.foldUp (Mk.nodeH Sha.sum) ((L.map (·.2.2)).reverse.take k) (ps.take k) d)).toArray 24 (0, 0)))) (fun vk _ => L.length - (intOf vk).toNat)
  case atStart => exact ⟨0, Nat.zero_le _, rfl, Keeps.refl _ _, by simp [Mk.foldUp]; exact HX.out.2.2.2.1⟩
  case round =>
    obtain ⟨k, hk, rfl, hI⟩ := hrel
    have hkb : Below R x1 wr := hI.out.1.below (Nat.le_of_lt HX.out.2.2.1) (fun b hb e => by omega)
    have hres := HX.out.2.1.mid hkb HX.out.2.2.2.2
    have hway : Sees wr 3 (.slice A3 L.length c3) L.length (partsC L.reverse) := HX.out.1.same fun b e _ => hI.out.1.block b (Nat.lt_trans (HL5.out b e) HX.out.2.2.1) (by have := HL5.out b e; omega)
    obtain ⟨x, hx⟩ : ∃ x, x = Mk.foldUp (Mk.nodeH Sha.sum) ((L.map (·.2.2)).reverse.take k) (ps.take k) d := ⟨_, rfl⟩
    have hxd : Dig x := by rw [hx]; exact foldUp_dig _ _ _ H.out.2.2.2.1
    have hxr := hI.out.2
    rw [← hx] at hxr
    by_cases hlt : k < L.length
    · obtain ⟨g3, o3, cap3, e3, -, -, hr3⟩ := hway.holds (by omega)
      injection e3 with e31 e32 e33
      subst e31 e33
      clear e32
      obtain ⟨pt, hpt⟩ : ∃ pt, L.reverse[k]? = some pt := ⟨_, List.getElem?_eq_getElem (by simpa using hlt)⟩
      have hpr := at_flat (enc := partC) (s := 3) (fun d _ => rfl) hr3 k pt hpt
      have hw : ((L.map (·.2.2)).reverse)[k]? = some pt.2.2 := by rw [← List.map_reverse, List.getElem?_map, hpt]; rfl
      obtain ⟨q, pg, po, pcap, hq, dq, ep, hpcap, hqr⟩ := (H.out.2.2.2.2.2.2.2.new hres.below).cell (i := k) (by have := H.out.2.2.2.2.2.1; omega)
      rw [← H.out.2.2.2.2.2.1] at ep
      injection ep with ep1 ep2 ep3
      subst ep1 ep3
      clear ep2
      have hstep := foldUp_take (x := d) hw hq
      rw [← hx] at hstep
      have cN : ∀ w, Below W.heap.size W w → ∀ a b, Dig a → Dig b → Calls Tryd.prog 16 #[digV a, digV b] w (SumPost w (Mk.nodeH Sha.sum a b)) := fun w hw a b ha hb => node_any w a b (H.out.2.2.2.2.2.2.1.new hw) ha hb
      have HK := Lib.hid (And.intro hkb (And.intro hres (And.intro hxd (And.intro hxr (And.intro hpr (And.intro dq (And.intro hqr (And.intro hstep (And.intro hway cN)))))))))
      have HP := Lib.hid (And.intro hpcap hpt)
      clear hkb hres hxd hxr hpr dq hqr hstep hway cN hr3 hpt hw hq hx hpcap
      obtain ⟨pa, pb, pw⟩ := pt
      have k0 : (k : Int) < (L.length : Int) := by omega
      cases pw with
      | true =>
        go_upto_region 12 with (refine wpList_load_part rfl (.tmp 41) rfl g3 (o3 + k * 3) rfl (pa, pb, true) HK.out.2.2.2.2.1 ?_; unfold partV)
        change (Code.region _ _ _).wp _ _ _ (wr.alloc (.cells #[.int .i64 (pa : Int), .int .i64 (pb : Int), .bool true] 73))
        obtain ⟨wa, hwa⟩ : ∃ wa, wa = wr.alloc (.cells #[.int .i64 (pa : Int), .int .i64 (pb : Int), .bool true] 73) := ⟨_, rfl⟩
        rw [← hwa]
        have hba : Below wr.heap.size wr wa := by rw [hwa]; exact (Below.refl _ _).alloc (Nat.le_refl _) _
        have hxa : wa.heap[R]? = some (.cells (bytesV x).toArray 24 (0, 0)) := (hba.block R (Array.getElem?_eq_some_iff.1 HK.out.2.2.2.1).1).trans HK.out.2.2.2.1
        have hqa : wa.rangeAt pg (po + k * 32) (bytesV q) := rangeAt_block HK.out.2.2.2.2.2.2.1 (hba.block pg (block_lt_of_range HK.out.2.2.2.2.2.2.1 (by rw [bytesV_length, HK.out.2.2.2.2.2.1.1]; omega)))
        have HA := Lib.hid (And.intro hba (And.intro hxa (And.intro hqa (below_chain' HK.out.2.1.below hba))))
        clear hba hxa hqa hwa
        have kc : (k : Int) < (c : Int) := by have := HP.out.1; have := H.out.2.2.2.2.2.1; omega
        refine wp_region_below_tail 6 wa.heap.size (by kernel_rfl) (by kernel_rfl) ?_
        intro I hNI F hF hFi
        have c1 := fun i => in_class (f := 16) hF hFi i (HK.out.2.2.2.2.2.2.2.2.2 _ (below_chain' HA.out.2.2.2 (hF i)) q x HK.out.2.2.2.2.2.1 HK.out.2.2.1)
        have v1 := fun i => rangeAt_whole (((hF i).block R (Array.getElem?_eq_some_iff.1 HA.out.2.1).1).trans HA.out.2.1)
        have v2 := fun i => rangeAt_block HA.out.2.2.1 ((hF i).block pg (block_lt_of_range HA.out.2.2.1 (by rw [bytesV_length, HK.out.2.2.2.2.2.1.1]; omega)))
        have HF := Lib.hid (And.intro c1 (And.intro v1 (And.intro v2 hF)))
        clear c1 v1 v2 hF hFi
        simp only [List.take_succ_cons, List.take_zero, List.drop_succ_cons, List.drop_zero]
        repeat (first | (refine wpQuiet_load_dig rfl (.tmp 47) rfl pg (po + k * 32) rfl q HK.out.2.2.2.2.2.1.1 (by rintro _ ⟨n, rfl⟩; exact HF.out.2.2.1 n) ?_; simp only [Act.put, List.setIfInBounds_toArray, List.set_cons_succ, List.set_cons_zero]) | (refine wpQuiet_load_dig rfl (.tmp 11) rfl R 0 rfl x HK.out.2.2.1.1 (by rintro _ ⟨n, rfl⟩; exact HF.out.2.1 n) ?_; simp only [Act.put, List.setIfInBounds_toArray, List.set_cons_succ, List.set_cons_zero]) | go_big_quiet_step ((go_at_call 16; exact HF.out.1 _)))
        refine wpQuiet_nil ?_
        intro x4 hw'
        obtain ⟨j, hw''⟩ := hw'
        have hx4 : Below wa.heap.size wa x4 := by rw [hw'']; exact HF.out.2.2.2 j
        have H4x := Lib.hid (And.intro hx4 ((hx4.block R (Array.getElem?_eq_some_iff.1 HA.out.2.1).1).trans HA.out.2.1))
        clear hx4 hw'' j HF
        go_wp2_with (refine wpList_store_dig rfl (.tmp 11) (.tmp 50) rfl R rfl _ rfl (dig_node _ _).1 (bytesV x) H4x.out.2 (by rw [bytesV_length, HK.out.2.2.1.1]) ?_)
        go_roundw
        case rel =>
          refine ⟨k + 1, by omega, by go_num, ?_⟩
          refine ⟨(hI.out.1.trans (Keeps.of_below (S := (· = R)) (below_chain' HA.out.1 H4x.out.1) (fun b hb h => by omega)) (fun b h => .inl h)).setRow rfl _, ?_⟩
          rw [HK.out.2.2.2.2.2.2.2.1]
          exact setRow_heap _ _ _ _ _ _ H4x.out.2
        case measure => simp [intOf]; omega
      | false =>
        go_upto_region 13 with (refine wpList_load_part rfl (.tmp 41) rfl g3 (o3 + k * 3) rfl (pa, pb, false) HK.out.2.2.2.2.1 ?_; unfold partV)
        change (Code.region _ _ _).wp _ _ _ (wr.alloc (.cells #[.int .i64 (pa : Int), .int .i64 (pb : Int), .bool false] 73))
        obtain ⟨wa, hwa⟩ : ∃ wa, wa = wr.alloc (.cells #[.int .i64 (pa : Int), .int .i64 (pb : Int), .bool false] 73) := ⟨_, rfl⟩
        rw [← hwa]
        have hba : Below wr.heap.size wr wa := by rw [hwa]; exact (Below.refl _ _).alloc (Nat.le_refl _) _
        have hxa : wa.heap[R]? = some (.cells (bytesV x).toArray 24 (0, 0)) := (hba.block R (Array.getElem?_eq_some_iff.1 HK.out.2.2.2.1).1).trans HK.out.2.2.2.1
        have hqa : wa.rangeAt pg (po + k * 32) (bytesV q) := rangeAt_block HK.out.2.2.2.2.2.2.1 (hba.block pg (block_lt_of_range HK.out.2.2.2.2.2.2.1 (by rw [bytesV_length, HK.out.2.2.2.2.2.1.1]; omega)))
        have HA := Lib.hid (And.intro hba (And.intro hxa (And.intro hqa (below_chain' HK.out.2.1.below hba))))
        clear hba hxa hqa hwa
        have kc : (k : Int) < (c : Int) := by have := HP.out.1; have := H.out.2.2.2.2.2.1; omega
        refine wp_region_below_tail 6 wa.heap.size (by kernel_rfl) (by kernel_rfl) ?_
        intro I hNI F hF hFi
        have c1 := fun i => in_class (f := 16) hF hFi i (HK.out.2.2.2.2.2.2.2.2.2 _ (below_chain' HA.out.2.2.2 (hF i)) x q HK.out.2.2.1 HK.out.2.2.2.2.2.1)
        have v1 := fun i => rangeAt_whole (((hF i).block R (Array.getElem?_eq_some_iff.1 HA.out.2.1).1).trans HA.out.2.1)
        have v2 := fun i => rangeAt_block HA.out.2.2.1 ((hF i).block pg (block_lt_of_range HA.out.2.2.1 (by rw [bytesV_length, HK.out.2.2.2.2.2.1.1]; omega)))
        have HF := Lib.hid (And.intro c1 (And.intro v1 (And.intro v2 hF)))
        clear c1 v1 v2 hF hFi
        simp only [List.take_succ_cons, List.take_zero, List.drop_succ_cons, List.drop_zero]
        repeat (first | (refine wpQuiet_load_dig rfl (.tmp 54) rfl pg (po + k * 32) rfl q HK.out.2.2.2.2.2.1.1 (by rintro _ ⟨n, rfl⟩; exact HF.out.2.2.1 n) ?_; simp only [Act.put, List.setIfInBounds_toArray, List.set_cons_succ, List.set_cons_zero]) | (refine wpQuiet_load_dig rfl (.tmp 11) rfl R 0 rfl x HK.out.2.2.1.1 (by rintro _ ⟨n, rfl⟩; exact HF.out.2.1 n) ?_; simp only [Act.put, List.setIfInBounds_toArray, List.set_cons_succ, List.set_cons_zero]) | go_big_quiet_step ((go_at_call 16; exact HF.out.1 _)))
        refine wpQuiet_nil ?_
        intro x4 hw'
        obtain ⟨j, hw''⟩ := hw'
        have hx4 : Below wa.heap.size wa x4 := by rw [hw'']; exact HF.out.2.2.2 j
        have H4x := Lib.hid (And.intro hx4 ((hx4.block R (Array.getElem?_eq_some_iff.1 HA.out.2.1).1).trans HA.out.2.1))
        clear hx4 hw'' j HF
        go_wp2_with (refine wpList_store_dig rfl (.tmp 11) (.tmp 56) rfl R rfl _ rfl (dig_node _ _).1 (bytesV x) H4x.out.2 (by rw [bytesV_length, HK.out.2.2.1.1]) ?_)
        go_roundw
        case rel =>
          refine ⟨k + 1, by omega, by go_num, ?_⟩
          refine ⟨(hI.out.1.trans (Keeps.of_below (S := (· = R)) (below_chain' HA.out.1 H4x.out.1) (fun b hb h => by omega)) (fun b h => .inl h)).setRow rfl _, ?_⟩
          rw [HK.out.2.2.2.2.2.2.2.1]
          exact setRow_heap _ _ _ _ _ _ H4x.out.2
        case measure => simp [intOf]; omega
    · obtain rfl : k = L.length := by omega
      have hl : (L.map (·.2.2)).reverse.length = L.length := by simp
      have hxD : x = D := by rw [hx, H.out.2.2.2.2.1, List.take_of_length_le (by omega), List.take_of_length_le (by rw [← H.out.2.2.2.2.2.1]; omega)]
      subst hxD
      have hxr2 : wr.rangeAt R 0 (bytesV x) := rangeAt_whole hxr
      have HK := Lib.hid (And.intro hres (And.intro hxd hxr2))
      clear hkb hway hx hxd hxr hres hxr2 hl
      go_wp2_with (first | (refine wpList_load_dig rfl (.tmp 11) rfl R 0 rfl x HK.out.2.2 HK.out.2.1.1 ?_) | (refine wpList_store_dig rfl (.tmp 8) (.tmp 58) rfl W.heap.size rfl x rfl HK.out.2.1.1 zero32 HK.out.1.blk zero32_length ?_))
      try (rw [Exit.noGoto_ret])
      refine bodyPost_ret (ret_dig2 (by rfl) _ _ W.heap.size x (by rfl) (rangeAt_whole (HK.out.1.back _)) HK.out.2.1.1) rfl ⟨rfl, HK.out.1.done _⟩
end Go.Proofs.YtplcjgpmainbnaaDoor.MkW
