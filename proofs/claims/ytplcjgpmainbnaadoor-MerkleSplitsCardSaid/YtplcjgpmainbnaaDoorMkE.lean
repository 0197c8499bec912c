/- merkle.digests, Root. -/
import Derived.Test.YtplcjgpmainbnaaDoorMkD
import Derived.Great.BuildSlice
set_option linter.unusedVariables false
set_option linter.unusedSimpArgs false
namespace Go.Proofs.YtplcjgpmainbnaaDoor.MkW
open Go.RowKit OwnS ShaW
attribute [local go_sem ↓] Kit.execOp_call_slot
attribute [local go_sem] Kit.callSlot_func
theorem infoD : ElemInfo Tryd.prog 24 (.agg zero32.toArray) 32 32 := elemInfo (by kernel_rfl) rfl rfl
def leafH (b : List Nat) : List Nat := Sha.sum (0 :: b)
theorem dig_leaf (b : List Nat) : Dig (leafH b) := dig_sum _
theorem dig_leaves (ls : List (List Nat)) : ∀ d ∈ ls.map leafH, Dig d := fun d hd => by
  obtain ⟨b, -, rfl⟩ := List.mem_map.1 hd
  exact dig_leaf b
theorem leaves_take {ls : List (List Nat)} {i : Nat} {l : List Nat} (h : ls[i]? = some l) : ((ls.take (i + 1)).map leafH).flatten = ((ls.take i).map leafH).flatten ++ leafH l := by
  obtain ⟨hi, rfl⟩ := List.getElem?_eq_some_iff.1 h
  rw [List.take_succ_eq_append_getElem hi, List.map_append, List.flatten_append]
  simp
/-- Digests of one's own. -/
structure OwnD (w : World) (base : Nat) (v : Value) (ds : List (List Nat)) : Prop where
  own : Owns w base 32 v ds.length (bytesV ds.flatten)
  dig : ∀ d ∈ ds, Dig d
theorem OwnD.digs {w : World} {base : Nat} {v : Value} {ds : List (List Nat)} (h : OwnD w base v ds) : DigsAt w v ds := ⟨h.own.sees, h.dig⟩
def DigsPost (W : World) (ds : List (List Nat)) (e : Ending) (w' : World) : Prop := ∃ A c, e = .returned (.slice A ds.length c) ∧ OwnD w' W.heap.size (.slice A ds.length c) ds ∧ Below W.heap.size W w'
/-- A digest in a block that was just made, as a source. -/
theorem src_dig {w : World} {g : Nat} {d : List Nat} (h : w.heap[g]? = some (.cells (bytesV d).toArray 24 (0, 0))) (hd : d.length = 32) : Src Tryd.prog 32 33 (.slice (some ⟨g, 0, none⟩) 1 1) 1 (bytesV d) w :=
  src_of_sees w Tryd.underlying33 (Owns.whole (base := 0) h (Nat.zero_le _) (by rw [bytesV_length, hd]) (by unfold maxLen; omega)).sees (bytesV_one d)
/-- A slice of one digest is built. -/
theorem run_build_dig (w : World) (D : List Nat) (hD : D.length = 32) : (Instr.buildSlice 33 1 #[(0, digV D)]).run Tryd.prog w = .ok (.slice (some ⟨w.heap.size, 0, none⟩) 1 1) (w.alloc (.cells (bytesV D).toArray 24)) := by
  obtain ⟨i, hi, hz, hs, -, hzs, -⟩ := infoD
  refine run_buildSlice w 33 24 1 _ _ i _ Tryd.underlying33 hi hz (by rw [hs]; omega) (by rw [hs]; omega) ?_
  rw [hs]
  have := Great.fill_whole (s := 32) (by omega) [digV D] ((Array.range (1 * 32)).map ((Value.agg zero32.toArray).cells[· % (Value.agg zero32.toArray).cells.size]!)) (fun v hv => by
    rw [List.mem_singleton] at hv
    subst hv
    show (bytesV D).toArray.size = 32
    rw [List.size_toArray, bytesV_length, hD]) (by simp)
  simpa [digV, Value.cells] using this
theorem wpList_build_dig {w : World} {ops : Array Oper} {rest : List Oper} {o : Oper} {a : Act} {Q : Exit → Act → World → Prop} (hgd : o.guard = none) (x : Operand) (ho : o.op = .buildSlice 33 1 #[(0, x)]) (D : List Nat) (hx : a.eval x = digV D) (hD : D.length = 32)
    (h : wpList Tryd.prog ops Q rest (a.put o.dst (.slice (some ⟨w.heap.size, 0, none⟩) 1 1)) (w.alloc (.cells (bytesV D).toArray 24))) : wpList Tryd.prog ops Q (o :: rest) a w :=
  wpList_plain hgd fun _ hK => by
    unfold Oper.wp execOp
    simp only [ho, List.map_toArray, List.map_cons, List.map_nil, hx, Sem.run_bind, run_build_dig w D hD, Result.andThen_ok]
    exact hK _ _ h
set_option maxRecDepth 100000 in
set_option maxHeartbeats 1000000 in
theorem digests_any (W : World) (v : Value) (hs : List Value) (ls : List (List Nat)) (hG : Glob W) (h : RowsAt W v hs ls) (hn : ls.length ≤ 1000000) (hl : ∀ l ∈ ls, l.length ≤ 1000000) : Calls Tryd.prog 36 #[v] W (DigsPost W (ls.map leafH)) := by
  obtain ⟨A, c, rfl, -, -⟩ := h.sees.form
  have H := Lib.hid (And.intro hG (And.intro h hl))
  clear hG h hl
  go_enter Tryd.func36, Tryd.ntmps36
  go_wp2_with fail
  go_loopw [3, 8] (fun vo vi wr => ∃ (i : Nat) (A2 : Option Addr) (c2 : Nat), i ≤ ls.length ∧ vi = .int .i64 i ∧ vo = .slice A2 i c2 ∧ Hid (Owns wr W.heap.size 32 (.slice A2 i c2) i (bytesV ((ls.take i).map leafH).flatten) ∧ Below W.heap.size W wr)) (fun _ vi _ => ls.length - (intOf vi).toNat)
  case atStart => exact ⟨0, none, 0, Nat.zero_le _, rfl, rfl, Owns.nil _ _ _, Below.refl _ _⟩
  case round =>
    obtain ⟨i, A2, c2, hi, rfl, rfl, hI⟩ := hrel
    by_cases hlt : i < ls.length
    · obtain ⟨l, g, o, cap, A', c', hl', hv, hc, hse⟩ := (H.out.2.1.new hI.out.2).cell hlt
      injection hv with e1 e2 e3
      subst e1 e3
      clear e2
      have hleaf := leaf_any wr _ l (H.out.1.new hI.out.2) hse (H.out.2.1.byte l (List.mem_of_getElem? hl')) (by have := H.out.2.2 l (List.mem_of_getElem? hl'); omega)
      obtain ⟨d, hd⟩ : ∃ d, d = Sha.sum (0 :: l) := ⟨_, rfl⟩
      rw [← hd] at hleaf
      have HS := Lib.hid (And.intro hl' (And.intro hleaf (And.intro hd (show d.length = 32 by rw [hd]; exact sum_length _))))
      clear hl' hse hleaf hd
      go_wp2_with (first | (at_builtin; refine wpList_append rfl (.tmp 12) (.tmp 15) 33 33 rfl W.heap.size 24 _ 32 32 Tryd.underlying33 infoD _ i (bytesV ((ls.take i).map leafH).flatten) rfl (by exact (hI.out.1.same (fun b hb => HB.out.block b (hI.out.1.lt b hb).2) HB.out.size).alloc _) _ 1 (bytesV d) rfl (by exact src_dig (heap_alloc_new w2 _) HS.out.2.2.2) (by unfold maxLen; omega) (by omega) (by simp; have := hI.out.2.size; have := HB.out.size; omega) ?_; intro A3 c3 w3 hown3 hg3 hbl3; have HA := Lib.hid (And.intro hown3 hg3); clear hown3 hg3 hbl3) | (refine wpList_build_dig rfl (.tmp 14) rfl d rfl HS.out.2.2.2 ?_) | (go_at_call 12; (with_reducible refine Calls.mono HS.out.2.1 ?_); rintro e w2 ⟨rfl, hb2⟩; have HB := Lib.hid hb2; clear hb2))
      go_roundw
      case rel =>
        refine ⟨i + 1, A3, c3, by omega, by go_num, rfl, ?_⟩
        have h0 := hI.out.2.size
        have h1 := HB.out.size
        rw [leaves_take HS.out.1, bytesV_append]
        refine ⟨by rw [show leafH l = d from HS.out.2.2.1.symm]; exact HA.out.1, ?_⟩
        exact ((hI.out.2.trans (HB.out.mono h0)).alloc (by omega) _).grown HA.out.2 (by simp; omega) (fun k e => (hI.out.1.lt k e).1)
      case measure => simp [intOf]; omega
    · obtain rfl : i = ls.length := by omega
      rw [List.take_length] at hI
      go_wp2_with fail
      go_ret
      have hl : (ls.map leafH).length = ls.length := List.length_map _
      refine ⟨A2, c2, by rw [hl]; rfl, ⟨by rw [hl]; exact hI.out.1, dig_leaves ls⟩, hI.out.2⟩
set_option maxRecDepth 100000 in
/-- The root of leaves. -/
theorem Root_any (W : World) (v : Value) (hs : List Value) (ls : List (List Nat)) (hG : Glob W) (h : RowsAt W v hs ls) (hn : ls.length ≤ 1000000) (hl : ∀ l ∈ ls, l.length ≤ 1000000) : Calls Tryd.prog 14 #[v] W (SumPost W (rootN (ls.map leafH))) := by
  obtain ⟨A, c, rfl, -, -⟩ := h.sees.form
  obtain ⟨D, hD⟩ : ∃ D, D = rootN (ls.map leafH) := ⟨_, rfl⟩
  rw [← hD]
  have hDl : D.length = 32 := by rw [hD]; exact (dig_root _ _ (Nat.le_refl _) (dig_leaves ls)).1
  have H := Lib.hid (And.intro hG (And.intro h (And.intro hl (And.intro hD hDl))))
  clear hG h hl hD hDl
  go_enter Tryd.func14, Tryd.ntmps14
  go_upto_region 1 with (fail)
  obtain ⟨w1, hw1⟩ : ∃ w1, w1 = W.alloc (.cells zero32.toArray 24) := ⟨_, rfl⟩
  change (Code.region _ _ _).wp _ _ _ (W.alloc (.cells zero32.toArray 24))
  rw [← hw1]
  have hR : Hid (Res W w1) := by rw [hw1]; exact Res.made W
  clear hw1
  have hc := digests_any w1 _ hs ls (H.out.1.new hR.out.below) (H.out.2.1.new hR.out.below) hn H.out.2.2.1
  obtain ⟨ds, hds⟩ : ∃ ds, ds = ls.map leafH := ⟨_, rfl⟩
  have hdl : ds.length = ls.length := by rw [hds, List.length_map]
  have hDd : D = rootN ds := by rw [hds]; exact H.out.2.2.2.1
  rw [← hds] at hc
  have HC := Lib.hid hc
  have HD := Lib.hid (And.intro hdl hDd)
  clear hc hds hdl hDd
  go_wp2_with (first | (go_at_call 36; (with_reducible refine Calls.mono HC.out ?_); rintro e w2 ⟨A2, c2, rfl, ho2, hb2⟩; have hR2 : Hid (Res W w2) := hR.out.new' hb2; have hc2 := root_of w2 _ ds (by rw [HD.out.1]; omega) (H.out.1.new hR2.out.below) ho2.digs; rw [← HD.out.2] at hc2; have HC2 := Lib.hid hc2; clear ho2 hb2 hc2) | (go_at_call 35; (with_reducible refine Calls.mono HC2.out ?_); rintro e w3 ⟨rfl, hb3⟩; have hR3 : Hid (Res W w3) := hR2.out.new' hb3; clear hb3) | (refine wpList_store_dig rfl (.tmp 2) (.tmp 5) rfl W.heap.size rfl _ rfl H.out.2.2.2.2 zero32 hR3.out.blk zero32_length ?_))
  exact bodyPost_ret (ret_dig (by rfl) _ _ W.heap.size _ (by rfl) (hR3.out.back _) H.out.2.2.2.2) rfl ⟨rfl, hR3.out.done _⟩
end Go.Proofs.YtplcjgpmainbnaaDoor.MkW
