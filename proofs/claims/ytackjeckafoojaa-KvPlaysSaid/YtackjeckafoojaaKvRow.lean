/- row: a row's things, taken one by one. -/
import Derived.Test.YtackjeckafoojaaKvAll
import Derived.Maps.OwnIn
namespace Go.Proofs.Ytackjeckafoojaa.KvI
open Go.RowKit Go.Shelf Kv
attribute [local go_sem] Oper.semAt_some
attribute [local go_sem ↓] Kit.execOp_call_slot
attribute [local go_sem] Kit.callSlot_func

structure RowOut (W : World) (v : Value) (l : List Int) (W' : World) : Prop where
  own : W'.ownsRow W.heap.size 3 1 v l.length (l.map encI)
  below : Below W.heap.size W W'
def RowPost (W : World) (l : List Int) (e : Ending) (W' : World) : Prop := ∃ v, e = .returned (.tuple #[v, .bool true]) ∧ RowOut W v l W'

theorem run_eql_func (w : World) (f : FuncId) (a b : Array Value) : (binOp .eql 86 (.func (.func f) a b) .nilFunc).run Try.prog w = .ok (.bool false) w := by kernel_rfl

set_option maxRecDepth 100000 in
set_option maxHeartbeats 4000000 in
theorem row_run (W : World) (g : Value) (id : Int) (l : List Int) (hl : l.length ≤ 2000) (hall : ∀ W', Below W.heap.size W W' → Calls Try.prog 43 #[g, .int .i64 id] W' (SeqPost W' l)) :
    Calls Try.prog 16 #[g, .int .i64 id] W (RowPost W l) := by
  obtain ⟨i0, hi, hz0, hz1, hz2⟩ := info_parts infoE
  have HI := Lib.hid (And.intro hi (And.intro hz0 (And.intro hz1 hz2)))
  clear hi hz0 hz1 hz2
  obtain ⟨w1, hw1⟩ : ∃ w1, w1 = (W.alloc (.cells #[.slice none 0 0] 42)).alloc (.cells #[.bool false] 4) := ⟨_, rfl⟩
  have hb1 : Below W.heap.size W w1 := by
    rw [hw1]
    have := (Below.refl W.heap.size W).alloc (Nat.le_refl _) (.cells #[.slice none 0 0] 42)
    exact this.alloc this.size _
  have hs1 : w1.heap.size = W.heap.size + 2 := by rw [hw1]; simp
  have hq4 : Boxed w1 W.heap.size 42 (.slice none 0 0) := by
    rw [hw1]
    exact (Below.heap_alloc _ _ _ (by simp)).trans (heap_alloc_new W _)
  have hq5 : Boxed w1 (W.heap.size + 1) 4 (.bool false) := by
    rw [hw1]
    have e : (W.alloc (.cells #[.slice none 0 0] 42)).heap.size = W.heap.size + 1 := by simp
    unfold Boxed
    rw [← e]
    exact heap_alloc_new _ _
  have HW := Lib.hid hw1
  have H1 := Lib.hid (And.intro hb1 (And.intro hs1 (And.intro hq4 hq5)))
  have HA := Lib.hid (hall w1 hb1)
  clear hw1 hb1 hs1 hq4 hq5 hall
  refine (callsIn_wide (n := 9)).1 ?_
  refine callsIn_of_wp_marks Try.func16 rfl trivial ?_ rfl
  simp only [Try.ntmps16, List.size_toArray, List.length_cons, List.length_nil, Nat.reduceAdd, Nat.reduceSub, Array.replicate_succ, Array.replicate_zero, List.push_toArray, List.append_toArray, List.nil_append, List.cons_append]
  gi_wp2_with fail
  refine ⟨trivial, ?_⟩
  rw [← HW.out]
  with_reducible refine CallsIn.mono (callsIn_wide.2 HA.out) ?_
  rintro e w2 ⟨q, rfl, hS⟩
  have HS := Lib.hid hS
  have heq := fun (w : World) (a b : Array Value) => run_eql_func w 60 a b
  clear hS
  gi_wp2_with fail
  obtain ⟨v, hv, hr⟩ := HS.out.ex
  have hw2 : W.heap.size + 2 ≤ w2.heap.size := by have := HS.out.below.size; have := H1.out.2.1; omega
  have hb2 : Below W.heap.size W w2 := H1.out.1.trans (HS.out.below.mono (by have := H1.out.2.1; omega))
  have hq4 : Boxed w2 W.heap.size 42 (.slice none 0 0) := (HS.out.below.block _ (by have := H1.out.2.1; omega)).trans H1.out.2.2.1
  have hq5 : Boxed w2 (W.heap.size + 1) 4 (.bool false) := (HS.out.below.block _ (by have := H1.out.2.1; omega)).trans H1.out.2.2.2
  have hSl : ∀ k, v.ownBlock = some k → k < w2.heap.size := fun k hk => own_lt' hr hk
  refine wpIn_rangeFunc_ownH rfl (by omega) (gf := 60) (lb := #[.pointer (some ⟨q, 0, none⟩)]) rfl trivial (enters_of Try.func60 (by kernel_rfl) rfl)
    (valuesI_stops 8 (by omega) w2 q v (fun k => v.ownBlock = some k) l (by omega) hv (RdI.of_own hr) (fun _ h => h) hSl) KeepS.trans (keepS_b (n := (w2.alloc (.cells #[.slice none 0 0] 42)).heap.size) (fun k hk => by have := hSl k hk; simp; omega)) ((Below.refl _ _).alloc (Nat.le_refl _) _) (fun _ => rfl)
    (fun pre W' => (∃ u, Boxed W' w2.heap.size 42 u ∧ W'.ownsRow w2.heap.size 3 1 u pre.length (pre.map encI) ∧ True) ∧ (((Boxed W' W.heap.size 42 (.slice none 0 0) ∧ Boxed W' (W.heap.size + 1) 4 (.bool false)) ∧ Below W.heap.size W W') ∧ w2.heap.size + 1 ≤ W'.heap.size))
    (fun _ _ _ => False)
    (OwnFrom.and (Own.from (holdsRow_own _ _ _ _ _ _ _ _) _) (OwnFrom.and (OwnFrom.and (OwnFrom.and (Own.from (boxed_own _ _ (fun _ => .slice none 0 0)) _) (Own.from (boxed_own _ _ (fun _ => .bool false)) _)) (ownFrom_below (Nat.le_refl _) (by simp; omega))) (fun s A B row hs hg hr => Nat.le_trans hs hg.size)))
    (fun _ _ _ _ _ hs _ _ => hs)
    ⟨⟨_, heap_alloc_new w2 _, World.ownsRow_nil _ _ _ _, trivial⟩, ⟨⟨⟨hq4.alloc _, hq5.alloc _⟩, hb2.alloc (by omega) _⟩, by simp⟩⟩
    (fun x a' _ => a' = { tmps := #[g, .int .i64 id, undef, undef, .pointer (some ⟨W.heap.size, 0, none⟩), .pointer (some ⟨W.heap.size + 1, 0, none⟩), .func (.func 60) #[] #[.pointer (some ⟨q, 0, none⟩)], .pointer (some ⟨w2.heap.size, 0, none⟩), .int .i64 x, g, .int .i64 id, .func (.func 60) #[] #[.pointer (some ⟨q, 0, none⟩)], .func (.func 60) #[] #[.pointer (some ⟨q, 0, none⟩)], .bool false, .func (.func 60) #[] #[.pointer (some ⟨q, 0, none⟩)], .int .i64 x, undef, undef, undef, undef, undef, undef, undef, undef], defers := [] })
    ?hax ?assign ?body ?done ?stop
  case hax =>
    rintro x a' _ X Y row h _ _
    exact h
  case assign =>
    rintro l' pre x W' K hI hK
    gi_wp2
    exact hK _ _ ((KeepsOthers.refl _).from _) (KeepS.refl _ _) hI rfl
  case body =>
    rintro l' pre x a' W' hl' ⟨r, hrl⟩ ⟨⟨u, hu, hru, -⟩, ⟨⟨h4, h5⟩, hB⟩, hsz⟩ rfl hlt
    obtain ⟨A, cp, rfl⟩ := own_form hru
    have hcn := hu.cell
    have hfn := hu.frozen
    have hle : (pre.length : Int) + 1 ≤ 2000 := by omega
    have HU := Lib.hid (And.intro hu (And.intro hru (And.intro h4 (And.intro h5 hB))))
    clear hu hru h4 h5 hB hrl
    gi_wp2_with (gi_at_builtin; refine wpListIn_append_own_at _ (by rfl) (.tmp 16) (.tmp 18) 42 (by rfl) w2.heap.size 3 i0 _ 1 8 Try.underlying42 HI.out.1 HI.out.2.1 HI.out.2.2.1 HI.out.2.2.2 (by rfl) (by decide) _ pre.length _ (by rfl) (by exact own_lit (W := W') rfl _ HU.out.2.1) _ 1 1 [.int .i64 x] (by rfl) (by rfl) (cell_one_new _ _ _) (by intro u hu; rw [List.mem_singleton] at hu; subst hu; exact enc_one _) (by unfold maxLen; omega) (by omega) (by simp; omega) ?_; intro v' w9 hownN hgrow _ hat; obtain ⟨A', cp', rfl⟩ := own_form hownN; have hap := HU.out.1.appended (by decide) HU.out.2.1 (by omega) (Nat.le_refl _) hownN hgrow; have hcn9 := hap.1.cell; have hfn9 := hap.1.frozen; have HO := Lib.hid (And.intro hownN (And.intro hgrow hap)); clear hownN hgrow hat hap hcn hfn)
    have hap := HO.out.2.2
    have hbn : Below w2.heap.size W' (w9.setCell ⟨w2.heap.size, 0, none⟩ (.slice A' (pre.length + 1) cp')) := hap.2.2.2.2
    refine ⟨hap.2.2.2.1.from _, KeepS.below hbn hSl, ⟨_, hap.2.1, ?_, trivial⟩, ⟨⟨⟨(hbn.block _ (by omega)).trans HU.out.2.2.1, (hbn.block _ (by omega)).trans HU.out.2.2.2.1⟩, HU.out.2.2.2.2.trans (hbn.mono (by omega))⟩, ?_⟩⟩
    · rw [List.length_append, List.map_append]
      exact hap.2.2.1
    · have := hbn.size; omega
  case done =>
    rintro D ys W' hD rfl ⟨⟨u, hu, hru, -⟩, ⟨⟨h4, h5⟩, hB⟩, hsz⟩ hK
    obtain ⟨A, cp, rfl⟩ := own_form hru
    have hcn := hu.cell
    have hc4 := h4.cell
    have hc5 := h5.cell
    have hf4 := h4.frozen
    have hf5 := h5.frozen
    have n1 : W.heap.size ≠ w2.heap.size := by omega
    have n2 : W.heap.size + 1 ≠ w2.heap.size := by omega
    have HU := Lib.hid (And.intro hu (And.intro hru (And.intro h4 (And.intro h5 hB))))
    clear hu hru h4 h5 hB
    gi_wp2
    obtain ⟨w4, hw4⟩ : ∃ w4, w4 = (W'.setCell ⟨W.heap.size, 0, none⟩ (.slice A ys.length cp)).setCell ⟨W.heap.size + 1, 0, none⟩ (.bool true) := ⟨_, rfl⟩
    rw [← hw4]
    have hDs : w2.heap.size + 1 ≤ D := by simpa using hD
    have hk4 : ∀ b, W.heap.size + 1 < b → w4.heap[b]? = W'.heap[b]? := fun b hb => by
      rw [hw4]
      exact (Below.heap_setCell _ _ _ _ (show b ≠ W.heap.size + 1 by omega)).trans (Below.heap_setCell _ _ _ _ (show b ≠ W.heap.size by omega))
    have hD4 : w4.heap[D]? = some (.deferred (some [])) := (hk4 D (by omega)).trans hK
    have b4 : Boxed w4 W.heap.size 42 (.slice A ys.length cp) := by
      rw [hw4]
      exact (Below.heap_setCell _ _ _ _ (show W.heap.size ≠ W.heap.size + 1 by omega)).trans (HU.out.2.2.1.set _)
    have b5 : Boxed w4 (W.heap.size + 1) 4 (.bool true) := by
      rw [hw4]
      have hh : Boxed (W'.setCell ⟨W.heap.size, 0, none⟩ (.slice A ys.length cp)) (W.heap.size + 1) 4 (.bool false) := (Below.heap_setCell _ _ _ _ (show W.heap.size + 1 ≠ W.heap.size by omega)).trans HU.out.2.2.2.1
      exact hh.set _
    have hB4 : Below W.heap.size W w4 := by
      rw [hw4]
      exact (HU.out.2.2.2.2.setCell (p := ⟨W.heap.size, 0, none⟩) (Nat.le_refl _) _).setCell (p := ⟨W.heap.size + 1, 0, none⟩) (by simp) _
    obtain ⟨w5, hw5⟩ : ∃ w5, w5 = w4.putObj D (.deferred none) := ⟨_, rfl⟩
    have hk5 : ∀ b, b ≠ D → w5.heap[b]? = w4.heap[b]? := fun b hb => by rw [hw5]; exact World.putObj_heap_other hb
    have c4 : w5.cell? ⟨W.heap.size, 0, none⟩ = some (.slice A ys.length cp) := Boxed.cell (t := 42) ((hk5 _ (by omega)).trans b4)
    have c5 : w5.cell? ⟨W.heap.size + 1, 0, none⟩ = some (.bool true) := Boxed.cell (t := 4) ((hk5 _ (by omega)).trans b5)
    have hres : (results Try.f16 #[g, .int .i64 id, undef, undef, .pointer (some ⟨W.heap.size, 0, none⟩), .pointer (some ⟨W.heap.size + 1, 0, none⟩), .func (.func 60) #[] #[.pointer (some ⟨q, 0, none⟩)], .pointer (some ⟨w2.heap.size, 0, none⟩), undef, g, .int .i64 id, .func (.func 60) #[] #[.pointer (some ⟨q, 0, none⟩)], .func (.func 60) #[] #[.pointer (some ⟨q, 0, none⟩)], .bool false, .func (.func 60) #[] #[.pointer (some ⟨q, 0, none⟩)], undef, undef, undef, undef, undef, undef, undef, undef, .slice A ys.length cp]).run Try.prog w5 = .ok (.tuple #[.slice A ys.length cp, .bool true]) w5 := by
      simp [results, Try.f16, go_sem, c4, c5]
    refine ⟨by simp, .inl ⟨_, _, rfl, run_takeDeferred hD4, ?_⟩⟩
    rw [← hw5]
    refine ⟨_, hres, _, rfl, ?_, ?_⟩
    · have hru := HU.out.2.1
      have h6 : w5.ownsRow w2.heap.size 3 1 (.slice A ys.length cp) ys.length (ys.map encI) := own_same hru fun b hb => by
        have h7 := (hru.lt b hb).1
        have h8 : b ≠ D := by
          rintro rfl
          rcases hru.2 with ⟨e, _⟩ | ⟨g', cap', cur, e, _, hh, _⟩
          · rw [e] at hb; simp [Value.ownBlock] at hb
          · rw [e] at hb
            injection hb with hb
            simp only at hb
            subst hb
            rw [hh] at hK; cases hK
        exact (hk5 b h8).trans (hk4 b (by omega))
      refine ⟨h6.1, ?_⟩
      rcases h6.2 with h9 | ⟨g', cap', cur, e, h9, r⟩
      · exact .inl h9
      · exact .inr ⟨g', cap', cur, e, by omega, r⟩
    · refine ⟨?_, ?_, ?_, ?_, fun k hk => (hk5 k (by omega)).trans (hB4.block k hk)⟩
      · rw [hw5]; exact hB4.os
      · rw [hw5]; exact hB4.tape
      · rw [hw5]; exact hB4.output
      · rw [hw5]; have := hB4.size; simpa [World.putObj] using this
  case stop =>
    rintro D cc pre W' _ _ h _
    exact h.elim
end Go.Proofs.Ytackjeckafoojaa.KvI
