/- slices.AppendSeq, Collect of the parts beside a way. · The parts beside a way: how many; slices.Reverse of parts. -/
import Derived.Test.YtplcjgpmainbnaaDoorMkH
import Derived.Test.YtplcjgpmainbnaaDoorOwn
import Derived.Test.YtplcjgpmainbnaaDoorMkV
set_option linter.unusedVariables false
set_option linter.unusedSimpArgs false
namespace Go.Proofs.YtplcjgpmainbnaaDoor.MkW
open Go.RowKit OwnS ShaW Go.Shelf SeqL QTail
attribute [local go_sem] Oper.semAt_some
attribute [local go_sem ↓] Kit.execOp_call_slot
attribute [local go_sem] Kit.callSlot_func
def partC (p : Part) : List Value := [.int .i64 (p.1 : Int), .int .i64 (p.2.1 : Int), .bool p.2.2]
def partsC (l : List Part) : List Value := (l.map partC).flatten
theorem partC_one (p : Part) : ∀ u ∈ partC p, u.oneCell' = true := by simp [partC, Value.oneCell']
theorem partsC_append (a b : List Part) : partsC (a ++ b) = partsC a ++ partsC b := by simp [partsC]
theorem infoP : ElemInfo Tryd.prog 73 (.agg #[.int .i64 0, .int .i64 0, .bool false]) 3 24 := elemInfo (by kernel_rfl) rfl rfl
/-- A part's cells in a block that was just made, as a source. -/
theorem src_part {w : World} {g : Nat} {p : Part} (h : w.heap[g]? = some (.cells (partC p).toArray 73 (0, 0))) : Src Tryd.prog 3 70 (.slice (some ⟨g, 0, none⟩) 1 1) 1 (partC p) w :=
  src_of_sees w Tryd.underlying70 (Owns.whole (base := 0) h (Nat.zero_le _) rfl (by unfold maxLen; omega)).sees (partC_one p)
/-- Between rounds. -/
def PJ (W : World) (n : Nat) (pre : List Part) (wr : World) : Prop :=
  ∃ (A2 : Option Addr) (c2 : Nat), Boxed wr W.heap.size 70 (.slice A2 pre.length c2) ∧ Owns wr (W.heap.size + 1) 3 (.slice A2 pre.length c2) pre.length (partsC (pre.map (fixP n))) ∧ (pre.length = 0 → A2 = none) ∧ Below W.heap.size W wr ∧ W.heap.size + 1 ≤ wr.heap.size
theorem PJ.own (W : World) (n : Nat) : OwnFrom (W.heap.size + 1) (PJ W n) := by
  rintro pre X Y row ⟨A2, c2, h1, h2, h3, h5, h6⟩ hg hr
  have hr' : ∀ r, row = some r → ∃ o : Obj, X.heap[r]? = some o ∧ o.isCells = false := fun r e => (hr r e).2
  have hne : ∀ k, k < W.heap.size + 1 → some k ≠ row := fun k hk e => by have := (hr k e.symm).1; omega
  exact ⟨A2, c2, h1.kept hg (hne _ (by omega)), owns_loose h2 hg hr', h3, h5.grown hg (by omega) (fun k e => by have := (hr k e).1; omega), Nat.le_trans h6 hg.size⟩
def CollectPost (W : World) (l : List Part) (e : Ending) (w' : World) : Prop := ∃ A c, e = .returned (.slice A l.length c) ∧ Owns w' W.heap.size 3 (.slice A l.length c) l.length (partsC l) ∧ Below W.heap.size W w'
set_option maxRecDepth 100000 in
set_option maxHeartbeats 2000000 in
theorem appendseq_parts (W : World) (n i qn qi : Nat) (hn : n ≤ 9223372036854775807) (hin : i < n) (cn : W.cell? ⟨qn, 0, none⟩ = some (.int .i64 (n : Int))) (ci : W.cell? ⟨qi, 0, none⟩ = some (.int .i64 (i : Int))) (hlen : (partsOf n i).length ≤ 1000000) :
    Calls Tryd.prog 56 #[.slice none 0 0, .func (.func 57) #[] #[.pointer (some ⟨qn, 0, none⟩), .pointer (some ⟨qi, 0, none⟩)]] W (CollectPost W (partsOf n i)) := by
  have hqi : qi < W.heap.size := block_lt_of_cell ci
  have H := Lib.hid (And.intro hn (And.intro hin (And.intro cn (And.intro ci (And.intro hlen hqi)))))
  clear hn hin cn ci hlen hqi
  refine (callsIn_wide (n := 9)).1 ?_
  refine callsIn_of_wp_marks Tryd.func56 rfl trivial ?_ rfl
  simp only [Tryd.ntmps56, List.size_toArray, List.length_cons, List.length_nil, Nat.reduceAdd, Nat.reduceSub, Array.replicate_succ, Array.replicate_zero, List.push_toArray, List.append_toArray, List.nil_append, List.cons_append]
  gi_wp2_with fail
  obtain ⟨w1, hw1⟩ : ∃ w1, w1 = W.alloc (.cells #[.slice none 0 0] 70) := ⟨_, rfl⟩
  rw [← hw1]
  have hb1 : Below W.heap.size W w1 := by rw [hw1]; exact (Below.refl _ _).alloc (Nat.le_refl _) _
  have hs1 : w1.heap.size = W.heap.size + 1 := by rw [hw1]; simp
  have hB2 : Boxed w1 W.heap.size 70 (.slice none 0 0) := by rw [hw1]; exact Boxed.new W _ _
  have h0 : PJ W n [] w1 := ⟨none, 0, hB2, Owns.nil _ _ _, fun _ => rfl, hb1, by omega⟩
  have HI := Lib.hid (And.intro h0 (And.intro hb1 hs1))
  clear hb1 hs1 hB2 h0 hw1
  refine wpIn_rangeFunc_ownH rfl (by omega) (gf := 57) (lb := #[.pointer (some ⟨qn, 0, none⟩), .pointer (some ⟨qi, 0, none⟩)]) rfl trivial (enters_of Tryd.func57 (by kernel_rfl) rfl)
    (seq_beside 8 (by omega) n i H.out.1 H.out.2.1 qn qi w1 ((HI.out.2.1.cell (p := ⟨qn, 0, none⟩) (block_lt_of_cell H.out.2.2.1)).trans H.out.2.2.1) ((HI.out.2.1.cell (p := ⟨qi, 0, none⟩) H.out.2.2.2.2.2).trans H.out.2.2.2.1) (· = qi) rfl (by intro k hk; have := H.out.2.2.2.2.2; have := HI.out.2.2; omega)) KeepS.trans (keepS_b (n := w1.heap.size) (by intro k hk; have := H.out.2.2.2.2.2; have := HI.out.2.2; omega)) (Below.refl _ _) (fun _ => rfl)
    (PJ W n) (fun _ _ _ => False) (by rw [HI.out.2.2]; exact PJ.own W n) (fun _ _ _ _ _ hs _ _ => hs) HI.out.1
    (fun x a' Wr => ∃ Bx, W.heap.size + 1 ≤ Bx ∧ Wr.heap[Bx]? = some (.cells (partC (fixP n x)).toArray 73 (0, 0)) ∧ (∀ A2 n2 c2, Boxed Wr W.heap.size 70 (.slice A2 n2 c2) → (Value.slice A2 n2 c2).ownBlock ≠ some Bx) ∧ a' = { tmps := #[.slice none 0 0, .func (.func 57) #[] #[.pointer (some ⟨qn, 0, none⟩), .pointer (some ⟨qi, 0, none⟩)], .pointer (some ⟨W.heap.size, 0, none⟩), undef, .slice none 0 0, .pointer (some ⟨Bx, 0, none⟩), .func (.func 57) #[] #[.pointer (some ⟨qn, 0, none⟩), .pointer (some ⟨qi, 0, none⟩)], partV (fixP n x), undef, undef, undef, undef, undef], defers := [] })
    ?hax ?assign ?body ?done ?stop
  case hax =>
    rintro x a' _ X Y row ⟨Bx, h1, h3, h5, h4⟩ hg hrow
    refine ⟨Bx, h1, (hg.block Bx (Array.getElem?_eq_some_iff.1 h3).1 (fun e => ?_)).trans h3, fun A2 n2 c2 hb => h5 A2 n2 c2 ?_, h4⟩
    · obtain ⟨_, o, ho, hc⟩ := hrow Bx e.symm
      rw [h3] at ho; cases ho; cases hc
    · have hlt6 : W.heap.size < X.heap.size := by
        have := (Array.getElem?_eq_some_iff.1 h3).1
        omega
      exact (hg.block _ hlt6 (fun e => by have := (hrow _ e.symm).1; have := HI.out.2.2; omega)).symm.trans hb
  case assign =>
    rintro l pre x Wr K hPI hK
    have hne : ∀ A2 n2 c2, Boxed (Wr.alloc (.cells (partC (fixP n x)).toArray 73)) W.heap.size 70 (.slice A2 n2 c2) → (Value.slice A2 n2 c2).ownBlock ≠ some Wr.heap.size := by
      obtain ⟨A3, c3, k1, k2, -, -, k6⟩ := hPI
      intro A2 n2 c2 hb
      have e1 := hb.cell
      rw [(k1.alloc _).cell] at e1
      rw [← Option.some.inj e1]
      intro e
      have := (k2.lt _ e).2
      omega
    have hsz := hPI
    have HP := Lib.hid (And.intro hPI (And.intro hK hne))
    obtain ⟨_, _, _, _, _, _, hsz⟩ := hsz
    clear hPI hK hne
    unfold partV
    gi_wp2
    refine HP.out.2.1 _ _ ((KeepsOthers.alloc _ _).from _) ((KeepS.refl _ Wr).alloc (by intro k hk; have := H.out.2.2.2.2.2; omega) _) ?_ ⟨Wr.heap.size, by omega, heap_alloc_new Wr _, HP.out.2.2, rfl⟩
    exact PJ.own W n pre Wr _ none HP.out.1 (World.grownBy_alloc _ _ _) (by simp)
  case body =>
    rintro l pre x a' Wr hl ⟨r, hrl⟩ ⟨A2, c2, hb6, hown, hnil, hbel, hsz⟩ ⟨Bx, hx1, hx2, hx3, rfl⟩ hlt2
    obtain ⟨y, hy⟩ : ∃ y, y = fixP n x := ⟨_, rfl⟩
    rw [← hy] at hx2 ⊢
    have HY := Lib.hid (And.intro hy hlt2)
    clear hy hlt2
    have e6 := hb6.cell
    have ex0 : Wr.cell? ⟨Bx, 0, none⟩ = some (.int .i64 (y.1 : Int)) := by rw [cell_of_row Wr Bx 0 _ _ _ hx2]; rfl
    have ex1 : Wr.cell? ⟨Bx, 1, none⟩ = some (.int .i64 (y.2.1 : Int)) := by rw [cell_of_row Wr Bx 1 _ _ _ hx2]; rfl
    have ex2 : Wr.cell? ⟨Bx, 2, none⟩ = some (.bool y.2.2) := by rw [cell_of_row Wr Bx 2 _ _ _ hx2]; rfl
    have hne := hx3 _ _ _ hb6
    have HB := Lib.hid (And.intro hb6 (And.intro hown (And.intro hnil (And.intro hbel (And.intro hx2 (And.intro hne hrl))))))
    clear hb6 hown hnil hbel hx2 hx3 hne hrl
    have hpl : pre.length ≤ 1000000 := by have h1 := HY.out.2; have h3 := H.out.2.2.2.2.1; omega
    have HO := Lib.hid (HB.out.2.1.alloc (.cells (partC y).toArray 73))
    gi_wp2_with (gi_at_builtin; refine wpListIn_append rfl (.tmp 8) (.tmp 10) 70 70 rfl (W.heap.size + 1) 73 _ 3 24 Tryd.underlying70 infoP _ pre.length (partsC (pre.map (fixP n))) rfl HO.out _ 1 (partC y) rfl (by exact src_part (heap_alloc_new Wr _)) (by unfold maxLen; omega) (by omega) (by simp; omega) ?_; intro A3 c3 w3 hown3 hg3 hbl3; have hb63 : Boxed w3 W.heap.size 70 (.slice A2 pre.length c2) := (hg3.block _ (by simp; omega) (fun e => by have := (HB.out.2.1.lt _ e.symm).1; omega)).trans (HB.out.1.alloc _); have e63 := hb63.cell; have f63 := hb63.frozen; have H3 := Lib.hid (And.intro hown3 (And.intro hg3 (And.intro hbl3 hb63))); clear hown3 hg3 hbl3 hb63)
    have hs3 : Wr.heap.size + 1 ≤ w3.heap.size := by have := H3.out.2.1.size; simpa using this
    have hnb : ∀ k, k < W.heap.size + 1 → (Value.slice A2 pre.length c2).ownBlock ≠ some k := fun k hk e => by have := (HB.out.2.1.lt k e).1; omega
    have blk : ∀ k, k < W.heap.size + 1 → w3.heap[k]? = Wr.heap[k]? := fun k hk => (H3.out.2.1.block k (by simp; omega) (fun e => hnb k hk e.symm)).trans (Below.heap_alloc _ _ _ (by omega))
    refine ⟨?_, ?_, ?_⟩
    · refine KeepsOthers.from (KeepsOthers.trans ?_ (KeepsOthers.setCell _ _ _)) _
      refine KeepsOthers.trans (KeepsOthers.alloc _ _) (KeepsOthers.of_grownBy H3.out.2.1 ?_)
      exact fun j o hj ho => owns_cells HO.out (by omega) (fun h => by rw [HB.out.2.2.1 h]; rfl) j o hj ho
    · refine KeepS.setCell ⟨by omega, fun k hk => ?_⟩ 0 (by have := H.out.2.2.2.2.2; omega) _
      subst hk
      exact blk _ (by have := H.out.2.2.2.2.2; omega)
    · have hl : (pre ++ [x]).length = pre.length + 1 := by simp
      unfold PJ
      rw [hl]
      have hm : partsC ((pre ++ [x]).map (fixP n)) = partsC (pre.map (fixP n)) ++ partC y := by
        rw [List.map_append, partsC_append, HY.out.1]
        simp [partsC]
      rw [hm]
      refine ⟨A3, c3, H3.out.2.2.2.set _, H3.out.1.setCell (fun b hb => by have := (H3.out.1.lt b hb).1; simp; omega) _, fun h => absurd h (by omega), ?_, by simp [World.setCell]; omega⟩
      refine Below.setCell (p := ⟨W.heap.size, 0, none⟩) ⟨?_, ?_, ?_, ?_, fun k hk => (blk k (by omega)).trans (HB.out.2.2.2.1.block k hk)⟩ (by simp) _
      · exact H3.out.2.1.os.trans HB.out.2.2.2.1.os
      · exact H3.out.2.1.tape.trans HB.out.2.2.2.1.tape
      · exact H3.out.2.1.output.trans HB.out.2.2.2.1.output
      · exact Nat.le_trans HB.out.2.2.2.1.size (by omega)
  case done =>
    rintro Dd ys Wd hD rfl ⟨A2, c2, hb6, hown, hnil, hbel, hsz⟩ hK
    have hfix : (partsOf n i).map (fixP n) = partsOf n i := by
      conv => rhs; rw [← List.map_id (partsOf n i)]
      exact List.map_congr_left fun p hp => partsOf_fix p hp
    rw [hfix] at hown
    have e6 := hb6.cell
    have HD := Lib.hid (And.intro hown (And.intro hbel (And.intro hK (And.intro hD hsz))))
    clear hown hnil hbel hb6 hK hfix hD hsz
    gi_wp2
    refine ⟨by simp, .inl ⟨_, _, rfl, run_takeDeferred HD.out.2.2.1, ?_⟩⟩
    refine ⟨_, results_tmp rfl _ _ _, ?_⟩
    have hr : ∀ r, some Dd = some r → ∃ o : Obj, Wd.heap[r]? = some o ∧ o.isCells = false := fun r e => by cases e; exact ⟨_, HD.out.2.2.1, rfl⟩
    refine ⟨A2, c2, rfl, (owns_loose HD.out.1 (grownBy_putObj' Wd Dd (.deferred none)) hr).mono (by omega), ?_⟩
    exact HD.out.2.1.grown (grownBy_putObj' Wd Dd _) HD.out.2.1.size (fun k e => by cases e; have := HD.out.2.2.2.1; have := HI.out.2.2; omega)
  case stop =>
    rintro D cc pre Wd _ _ h _
    exact h.elim
theorem collect_parts (W : World) (n i qn qi : Nat) (hn : n ≤ 9223372036854775807) (hin : i < n) (cn : W.cell? ⟨qn, 0, none⟩ = some (.int .i64 (n : Int))) (ci : W.cell? ⟨qi, 0, none⟩ = some (.int .i64 (i : Int))) (hlen : (partsOf n i).length ≤ 1000000) :
    Calls Tryd.prog 41 #[.func (.func 57) #[] #[.pointer (some ⟨qn, 0, none⟩), .pointer (some ⟨qi, 0, none⟩)]] W (CollectPost W (partsOf n i)) := by
  have HC := Lib.hid (appendseq_parts W n i qn qi hn hin cn ci hlen)
  clear hn hin cn ci hlen
  go_enter Tryd.func41, Tryd.ntmps41
  go_wp2_with (go_at_call 56; (with_reducible refine Calls.mono HC.out ?_); rintro e w1 ⟨A, c, rfl, ho, hb⟩; have H1 := Lib.hid (And.intro ho hb); clear ho hb)
  go_ret
  exact ⟨A, c, rfl, H1.out.1, H1.out.2⟩
end Go.Proofs.YtplcjgpmainbnaaDoor.MkW
set_option linter.unusedVariables false
set_option linter.unusedSimpArgs false
namespace Go.Proofs.YtplcjgpmainbnaaDoor.Mk
theorem halfGo_pow : ∀ (f k n j : Nat), k = 2 ^ j → ∃ j', halfGo f k n = 2 ^ j' := by
  intro f
  induction f with
  | zero => intro k n j h; exact ⟨j, h⟩
  | succ f ih =>
    intro k n j h
    unfold halfGo
    split
    · exact ih (2 * k) n (j + 1) (by rw [h, Nat.pow_succ, Nat.mul_comm])
    · exact ⟨j, h⟩
theorem half_pow (n : Nat) : ∃ j, half n = 2 ^ j := halfGo_pow n 1 n 0 rfl
theorem half_small {n k : Nat} (h2 : 2 ≤ n) (h : n ≤ 2 ^ (k + 1)) : half n ≤ 2 ^ k := by
  obtain ⟨j, hj⟩ := half_pow n
  have h1 := half_lt h2
  rw [hj] at h1 ⊢
  have h3 : j < k + 1 := (Nat.pow_lt_pow_iff_right (by omega)).1 (Nat.lt_of_lt_of_le h1 h)
  exact Nat.pow_le_pow_right (by omega) (by omega)
theorem parts_log : ∀ (k f a b i : Nat), b - a ≤ 2 ^ k → (parts f a b i).length ≤ k := by
  intro k
  induction k with
  | zero =>
    intro f a b i h
    cases f with
    | zero => simp [parts]
    | succ f => unfold parts; rw [if_neg (by simp at h; omega)]; simp
  | succ k ih =>
    intro f a b i h
    cases f with
    | zero => simp [parts]
    | succ f =>
      unfold parts
      split
      · rename_i hb
        have h1 := half_small (by omega) h
        have h2 := half_le (n := b - a)
        simp only
        split
        · have := ih f (a + half (b - a)) b i (by omega)
          simp only [List.length_cons]; omega
        · have := ih f a (a + half (b - a)) i (by omega)
          simp only [List.length_cons]; omega
      · simp
end Go.Proofs.YtplcjgpmainbnaaDoor.Mk
namespace Go.Proofs.YtplcjgpmainbnaaDoor.MkW
open Go.RowKit OwnS ShaW RevL QTail
theorem partsOf_log (n i : Nat) (h : n ≤ 9223372036854775807) : (partsOf n i).length ≤ 63 := Mk.parts_log 63 n 0 n i (by rw [show (2:Nat) ^ 63 = 9223372036854775808 from rfl]; omega)
theorem part_size : (Tryd.prog.info? 73).map (·.size) = some 3 := by kernel_rfl
theorem wpList_store_part {w : World} {ops : Array Oper} {rest : List Oper} {op : Oper} {a : Act} {Q : Exit → Act → World → Prop} (hgd : op.guard = none) (x y : Operand) (ho : op.op = .store 73 x y)
    (g o : Nat) (D : Part) (hx : a.eval x = .pointer (some ⟨g, o, none⟩)) (hy : a.eval y = partV D) (ht : w.there g o 3)
    (h : wpList Tryd.prog ops Q rest (a.put op.dst undef) (w.setCells g o (partC D))) : wpList Tryd.prog ops Q (op :: rest) a w :=
  wpList_store_mid hgd 73 x y ho g o (partC D).toArray hx hy ht part_size (all_oneCell_toArray (partC_one D)) h
theorem wpQuiet_load_part {ops : Array Oper} {C : World → Prop} {Q : Act → Prop} {rest : List Oper} {op : Oper} {a : Act} (hgd : op.guard = none) (x : Operand) (ho : op.op = .load 73 x)
    (g p : Nat) (hx : a.eval x = .pointer (some ⟨g, p, none⟩)) (D : Part) (hS : ∀ w, C w → w.rangeAt g p (partC D))
    (h : wpQuiet Tryd.prog ops C Q rest (a.put op.dst (partV D))) : wpQuiet Tryd.prog ops C Q (op :: rest) a :=
  wpQuiet_load_mid hgd 73 x ho g p hx (partC D) _ hS Tryd.underlying73 rfl part_size h
set_option maxRecDepth 100000 in
set_option maxHeartbeats 2000000 in
theorem rev_parts (W : World) (ds : List Part) (g o cap : Nat) (hn : ds.length ≤ 1000000000) (hcap : ds.length ≤ cap) (ht : W.there g o (cap * 3)) (hr : ∀ k d, ds[k]? = some d → W.rangeAt g (o + k * 3) (partC d)) :
    Calls Tryd.prog 43 #[.slice (some ⟨g, o, none⟩) ds.length cap] W fun e w' => e = .returned (.tuple #[]) ∧ (∀ k d, ds.reverse[k]? = some d → w'.rangeAt g (o + k * 3) (partC d)) ∧ w'.there g o (cap * 3) ∧ Keeps W w' (· = g) := by
  have H := Lib.hid (And.intro ht hr)
  clear ht hr
  go_enter Tryd.func43, Tryd.ntmps43
  go_wp2_with fail
  go_loopw [2, 3] (fun vi vj wr => ∃ i : Nat, i ≤ ds.length ∧ vi = .int .i64 i ∧ vj = .int .i64 ((ds.length : Int) - 1 - (i : Int)) ∧ Hid (RevAt partC 3 ds wr g o i ∧ wr.there g o (cap * 3) ∧ Keeps W wr (· = g))) (fun vi _ _ => ds.length - (intOf vi).toNat)
  case atStart => exact ⟨0, Nat.zero_le _, rfl, by simp, RevAt.start H.out.2, H.out.1, Keeps.refl _ _⟩
  case round =>
    obtain ⟨i, hi, rfl, rfl, hI⟩ := hrel
    by_cases hlt : i < ds.length - 1 - i
    · obtain ⟨a, b, ha, hb, ra, rb⟩ := hI.out.1.two hlt
      obtain ⟨j, hj⟩ : ∃ j, j = ds.length - 1 - i := ⟨_, rfl⟩
      have hji : (ds.length : Int) - 1 - (i : Int) = (j : Int) := by omega
      rw [← hj] at rb hb
      have hjl : j < ds.length := by omega
      have hil : i < ds.length := by omega
      have hij : i < j := by omega
      have ta : wr.there g (o + i * 3) 3 := there_mono (there_drop (k := i * 3) (n := (cap - i) * 3) (by rw [← Nat.add_mul, show i + (cap - i) = cap by omega]; exact hI.out.2.1)) (by omega)
      have tb : wr.there g (o + j * 3) 3 := there_mono (there_drop (k := j * 3) (n := (cap - j) * 3) (by rw [← Nat.add_mul, show j + (cap - j) = cap by omega]; exact hI.out.2.1)) (by omega)
      have HA := Lib.hid (And.intro ha (And.intro hb (And.intro ra (And.intro rb (And.intro ta tb)))))
      have HJ := Lib.hid (And.intro hj hlt)
      clear ha hb ra rb ta tb hj hlt
      simp only [hji]
      go_wp2_with fail
      refine wp_region_mix (fun w' => w'.rangeAt g (o + i * 3) (partC a) ∧ w'.rangeAt g (o + j * 3) (partC b)) (fun k => k == 7 || k == 11) [0, 1, 2, 3, 4, 5, 6, 7, 8, 9, 10, 11, 12, 13, 14, 15] (by kernel_rfl) rfl (by kernel_rfl) (by kernel_rfl) (by kernel_rfl) ?_
      intro I F hF
      simp only [pairOps, List.filterMap_cons, List.filterMap_nil, List.getElem?_cons_succ, List.getElem?_cons_zero, Option.map_some]
      repeat (first | (refine mixN_free rfl rfl ?_; go_big_quiet_step (fail); refine wpQuiet_nil ?_) | (refine mixN_need rfl rfl ⟨HA.out.2.2.1, HA.out.2.2.2.1⟩ ?_; (first | (refine wpQuiet_load_part rfl (.tmp 20) rfl g (o + j * 3) rfl b (by rintro _ ⟨n, rfl⟩; exact (hF n).2) ?_) | (refine wpQuiet_load_part rfl (.tmp 24) rfl g (o + i * 3) rfl a (by rintro _ ⟨n, rfl⟩; exact (hF n).1) ?_)); refine wpQuiet_nil ?_; simp only [Act.put, List.setIfInBounds_toArray, List.set_cons_succ, List.set_cons_zero]))
      refine mixN_step rfl ?_
      go_wp2_with (refine wpList_store_part rfl (.tmp 26) (.tmp 21) rfl g (o + i * 3) b rfl rfl HA.out.2.2.2.2.1 ?_)
      refine ⟨rfl, fun hn => Bool.noConfusion (hn.symm.trans (by kernel_rfl : _ = true)), ?_⟩
      refine mixN_free rfl rfl ?_
      go_big_quiet_step (fail)
      refine wpQuiet_nil ?_
      refine mixN_step rfl ?_
      go_wp2_with (refine wpList_store_part rfl (.tmp 27) (.tmp 25) rfl g (o + j * 3) a rfl rfl (World.there_setCells (w := wr.drew) HA.out.2.2.2.2.2 _ _ _) ?_)
      refine ⟨rfl, fun hn => Bool.noConfusion (hn.symm.trans (by kernel_rfl : _ = true)), ?_⟩
      unfold mixN
      go_wp2_with fail
      go_roundw
      case rel =>
        refine ⟨i + 1, by omega, by go_num, by simp; omega, ?_⟩
        obtain ⟨hj, hlt⟩ := HJ.out
        have hr1 : RevAt partC 3 ds wr.drew g o i := hI.out.1
        have ht1 : wr.drew.there g o (cap * 3) := hI.out.2.1
        have hs := hr1.swap hlt (fun d _ => rfl) (there_mono ht1 (Nat.mul_le_mul_right 3 hcap)) HA.out.1 (by rw [← hj]; exact HA.out.2.1)
        rw [← hj] at hs
        exact ⟨hs, World.there_setCells (World.there_setCells ht1 _ _ _) _ _ _, keeps_setCells (keeps_setCells hI.out.2.2.drew rfl _ _) rfl _ _⟩
      case measure => simp [intOf]; omega
    · have hge : ¬ (i : Int) < (ds.length : Int) - 1 - (i : Int) := by omega
      go_wp2_with fail
      refine bodyPost_end (results_none rfl _ _ _) rfl ?_
      exact ⟨rfl, fun k x y => ⟨hI.out.1.ends hlt hi k _, hI.out.1.ends hlt hi k _⟩, hI.out.2.1, hI.out.2.2⟩
/-- Reversed. -/
def RevPPost (W : World) (base : Nat) (v : Value) (l : List Part) (e : Ending) (w' : World) : Prop := e = .returned (.tuple #[]) ∧ Owns w' base 3 v l.length (partsC l.reverse) ∧ Keeps W w' (fun b => v.ownBlock = some b)
set_option maxRecDepth 100000 in
theorem reverse_parts (W : World) (base : Nat) (v : Value) (l : List Part) (h : Owns W base 3 v l.length (partsC l)) (hn : l.length ≤ 1000000000) : Calls Tryd.prog 43 #[v] W (RevPPost W base v l) := by
  by_cases h0 : 0 < l.length
  · obtain ⟨g, o, cap, rfl, h1, h2, h3, h4, h5, h6⟩ := h.holds h0
    refine (rev_parts W l g o cap hn h3 h6 (at_flat (enc := partC) (s := 3) (fun d _ => rfl) h5)).mono ?_
    rintro e w' ⟨rfl, hr, ht, hk⟩
    refine ⟨rfl, ⟨?_, .inr ⟨g, o, cap, rfl, h1, Nat.lt_of_lt_of_le h2 hk.size, h3, h4, rangeAt_flat (enc := partC) (s := 3) (fun d _ => rfl) hr, ht⟩⟩, ⟨hk.os, hk.tape, hk.output, hk.size, fun b hb hS => hk.block b hb (by rintro rfl; exact hS rfl)⟩⟩
    have := flat_len (enc := partC) (s := 3) (ds := l.reverse) (fun d _ => rfl)
    rw [List.length_reverse] at this
    exact this
  · obtain rfl : l = [] := List.eq_nil_of_length_eq_zero (by omega)
    obtain ⟨A, c, rfl, -, -⟩ := h.form
    have H := Lib.hid h
    clear h
    go_enter Tryd.func43, Tryd.ntmps43
    go_wp2_with fail
    go_loopw [2, 3] (fun vi vj wr => vi = .int .i64 0 ∧ vj = .int .i64 (-1) ∧ wr = W) (fun vi _ _ => 0)
    case atStart => exact ⟨rfl, rfl, rfl⟩
    case round =>
      obtain ⟨rfl, rfl, rfl⟩ := hrel
      go_wp2_with fail
      refine bodyPost_end (results_none rfl _ _ _) rfl ?_
      exact ⟨rfl, H.out, Keeps.refl _ _⟩
end Go.Proofs.YtplcjgpmainbnaaDoor.MkW
