/- cupellaw11.Made: sizes that are refused. Printed by genmdn.py. -/
import Derived.Test.YtfhaebaegkpkhaaFil
import Derived.Test.YtfhaebaegkpkhaaWChk
set_option linter.unusedVariables false
set_option linter.unusedSimpArgs false
namespace Go.Proofs.Ytfhaebaegkpkhaa.Fil
open Go.RowKit OwnS Byt QTail Cfg Ten Bpe RevL
attribute [local go_sem ↓] Kit.execOp_call_slot
attribute [local go_sem] Kit.callSlot_func
def zeroL : List Value := [.int .i64 0, .int .i64 0, .int .i64 0, .int .i64 0, .int .i64 0, .int .i64 0, .slice none 0 0, .slice none 0 0, .int .i64 0, .int .i64 0, .slice none 0 0, .slice none 0 0, .slice none 0 0, .int .i64 0, .int .i64 0, .slice none 0 0]
theorem zeroL_one : ∀ u ∈ zeroL, u.oneCell' = true := by unfold zeroL; decide
theorem wts_size : (Try.prog.info? 31).map (·.size) = some 16 := by kernel_rfl
/-- A model's cells are stored whole. -/
theorem wpList_store_wts {w : World} {ops : Array Oper} {rest : List Oper} {o : Oper} {a : Act} {Q : Exit → Act → World → Prop} (hgd : o.guard = none) (x y : Operand) (ho : o.op = .store 31 x y) (g : Nat) (hx : a.eval x = .pointer (some ⟨g, 0, none⟩)) (L : List Value) (hy : a.eval y = .agg L.toArray) (hL : L.length = 16) (h1 : ∀ u ∈ L, u.oneCell' = true)
    (D0 : List Value) (hg : w.heap[g]? = some (.cells D0.toArray 31 (0, 0))) (h0 : D0.length = 16) (h : wpList Try.prog ops Q rest (a.put o.dst undef) (w.setRow g L.toArray)) : wpList Try.prog ops Q (o :: rest) a w :=
  wpList_store_row hgd 31 x y ho g L.toArray hx hy 31 D0.toArray hg (by rw [wts_size, List.size_toArray, hL]) (by rw [List.size_toArray, List.size_toArray, h0, hL]) (all_oneCell_toArray h1) h
theorem below_setRow {w w' : World} {B : Nat} (h : Below B w w') (g : Nat) (cs : Array Value) (hg : B ≤ g) : Below B w (w'.setRow g cs) :=
  ⟨h.os, h.tape, h.output, by simpa using h.size, fun b hb => (setRow_other w' g b cs (by omega)).trans (h.block b hb)⟩
/-- A model's variable and a slot handed back. -/
theorem results_wts {fn : Func} {p u : Tmp} (h : fn.results = #[.cell p 31, .tmp u]) (tmps : Array Value) (w : World) (g : Nat) (L : List Value) (hp : tmps.getD p undef = .pointer (some ⟨g, 0, none⟩)) (hg : w.heap[g]? = some (.cells L.toArray 31 (0, 0))) (hL : L.length = 16) :
    (results fn tmps).run Try.prog w = .ok (.tuple #[.agg L.toArray, tmps.getD u undef]) w := by
  rw [results_cell_tmp h, hp]
  simp [asAddr, run_loadVar_row w g 31 31 L.toArray (0, 0) _ hg Try.underlying31 (by rfl) (by rw [wts_size, List.size_toArray, hL])]
def specV (s0 s1 s2 s3 s4 s5 : Int) (v : Value) : Value := .agg #[.int .i64 s0, .int .i64 s1, .int .i64 s2, .int .i64 s3, .int .i64 s4, .int .i64 s5, v]
/-- Sizes that may be, as Made asks. -/
def badSz (s0 s1 s2 s3 s4 s5 : Int) (n : Nat) : Prop := s0 < 2 ∨ 12 < s0 ∨ (s1 ≠ 2 ∧ s1 ≠ 4) ∨ s2 < 1 ∨ 2 < s2 ∨ s1 % (2 * s2) ≠ 0 ∨ s3 < 1 ∨ 2 < s3 ∨ s4 < 2 ∨ 8 < s4 ∨ s5 < 1 ∨ 4 < s5 ∨ n < 1 ∨ 80 < n
def MdNo (W : World) (e : Ending) (w' : World) : Prop := e = .returned (.tuple #[.agg zeroL.toArray, .bool false]) ∧ Below W.heap.size W w'
set_option maxRecDepth 100000 in
set_option maxHeartbeats 16000000 in
theorem made_no1 (W : World) (s0 s1 s2 s3 s4 s5 : Int) (A : Option Addr) (n c : Nat) (hh : s0 < 2 ∨ 12 < s0 ∨ (s1 ≠ 2 ∧ s1 ≠ 4) ∨ s2 < 1 ∨ 2 < s2 ∨ s1 % (2 * s2) ≠ 0) :
    Calls Try.prog 19 #[specV s0 s1 s2 s3 s4 s5 (.slice A n c)] W (MdNo W) := by
  unfold specV MdNo
  have HH := Lib.hid hh
  clear hh
  go_enter Try.func19, Try.ntmps19
  go_upto_region 1 with fail
  change Code.wp _ _ _ _ ((W.alloc (.cells #[.int .i64 s0, .int .i64 s1, .int .i64 s2, .int .i64 s3, .int .i64 s4, .int .i64 s5, .slice A n c] 49)).alloc (.cells zeroL.toArray 31))
  obtain ⟨w1, hw1⟩ : ∃ w1, w1 = (W.alloc (.cells #[.int .i64 s0, .int .i64 s1, .int .i64 s2, .int .i64 s3, .int .i64 s4, .int .i64 s5, .slice A n c] 49)).alloc (.cells zeroL.toArray 31) := ⟨_, rfl⟩
  rw [← hw1]
  have hb : w1.heap[W.heap.size]? = some (.cells [.int .i64 s0, .int .i64 s1, .int .i64 s2, .int .i64 s3, .int .i64 s4, .int .i64 s5, .slice A n c].toArray 49 (0, 0)) := by rw [hw1]; rw [Below.heap_alloc _ _ _ (by simp)]; exact heap_alloc_new W _
  have hb2 : w1.heap[W.heap.size + 1]? = some (.cells zeroL.toArray 31 (0, 0)) := by
    rw [hw1]
    have := heap_alloc_new (W.alloc (.cells #[.int .i64 s0, .int .i64 s1, .int .i64 s2, .int .i64 s3, .int .i64 s4, .int .i64 s5, .slice A n c] 49)) (.cells zeroL.toArray 31)
    simpa using this
  have hbe : Below W.heap.size W w1 := by rw [hw1]; exact ((Below.refl _ _).alloc (Nat.le_refl _) _).alloc (by simp) _
  have hs : w1.heap.size = W.heap.size + 2 := by rw [hw1]; simp
  have c0 : w1.cell? ⟨W.heap.size, 0, none⟩ = some (.int .i64 s0) := by rw [cell_of_row _ _ 0 _ _ _ hb]; rfl
  have c1 : w1.cell? ⟨W.heap.size, 1, none⟩ = some (.int .i64 s1) := by rw [cell_of_row _ _ 1 _ _ _ hb]; rfl
  have c2 : w1.cell? ⟨W.heap.size, 2, none⟩ = some (.int .i64 s2) := by rw [cell_of_row _ _ 2 _ _ _ hb]; rfl
  have c3 : w1.cell? ⟨W.heap.size, 3, none⟩ = some (.int .i64 s3) := by rw [cell_of_row _ _ 3 _ _ _ hb]; rfl
  have c4 : w1.cell? ⟨W.heap.size, 4, none⟩ = some (.int .i64 s4) := by rw [cell_of_row _ _ 4 _ _ _ hb]; rfl
  have c5 : w1.cell? ⟨W.heap.size, 5, none⟩ = some (.int .i64 s5) := by rw [cell_of_row _ _ 5 _ _ _ hb]; rfl
  have H1 := Lib.hid (And.intro hb (And.intro hb2 (And.intro hbe hs)))
  clear hw1 hb hb2 hbe hs
  go_upto_region 2 with fail
  simp only [List.append]
  obtain ⟨w2, hw2⟩ : ∃ w2, w2 = w1.alloc (.cells #[.int .i64 s0, .int .i64 s1, .int .i64 s2, .int .i64 s3, .int .i64 s4, .int .i64 s5] 47) := ⟨_, rfl⟩
  rw [← hw2]
  have hb2 : Below w1.heap.size w1 w2 := by rw [hw2]; exact (Below.refl _ _).alloc (Nat.le_refl _) _
  have hz := (hb2.block _ (Array.getElem?_eq_some_iff.1 H1.out.2.1).1).trans H1.out.2.1
  have ha : w2.heap[w1.heap.size]? = some (.cells [.int .i64 s0, .int .i64 s1, .int .i64 s2, .int .i64 s3, .int .i64 s4, .int .i64 s5].toArray 47 (0, 0)) := by rw [hw2]; exact heap_alloc_new w1 _
  have a0 : w2.cell? ⟨w1.heap.size, 0, none⟩ = some (.int .i64 s0) := by rw [cell_of_row _ _ 0 _ _ _ ha]; rfl
  have a1 : w2.cell? ⟨w1.heap.size, 1, none⟩ = some (.int .i64 s1) := by rw [cell_of_row _ _ 1 _ _ _ ha]; rfl
  have a2 : w2.cell? ⟨w1.heap.size, 2, none⟩ = some (.int .i64 s2) := by rw [cell_of_row _ _ 2 _ _ _ ha]; rfl
  have a3 : w2.cell? ⟨w1.heap.size, 3, none⟩ = some (.int .i64 s3) := by rw [cell_of_row _ _ 3 _ _ _ ha]; rfl
  have a4 : w2.cell? ⟨w1.heap.size, 4, none⟩ = some (.int .i64 s4) := by rw [cell_of_row _ _ 4 _ _ _ ha]; rfl
  have a5 : w2.cell? ⟨w1.heap.size, 5, none⟩ = some (.int .i64 s5) := by rw [cell_of_row _ _ 5 _ _ _ ha]; rfl
  have a6 : w2.cell? ⟨W.heap.size, 6, none⟩ = some (.slice A n c) := by rw [cell_of_row _ _ 6 _ _ _ ((hb2.block _ (Array.getElem?_eq_some_iff.1 H1.out.1).1).trans H1.out.1)]; rfl
  have H2 := Lib.hid (And.intro hz (below_chain H1.out.2.2.1 hb2))
  clear hw2 hb2 hz ha c0 c1 c2 c3 c4 c5
  have hh := HH.out
  clear HH
  by_cases h0 : s0 < 2
  · clear hh
    go_upto_region 3 with fail
    go_wp2_with (refine wpList_store_wts rfl (.tmp 2) (.tmp 93) rfl (W.heap.size + 1) rfl zeroL rfl rfl zeroL_one zeroL H2.out.1 rfl ?_)
    refine bodyPost_ret (results_wts (by rfl) _ _ (W.heap.size + 1) zeroL (by rfl) (setRow_heap _ _ _ _ _ _ H2.out.1) rfl) rfl ⟨rfl, ?_⟩
    exact below_setRow H2.out.2 _ _ (by omega)
  by_cases h1 : 12 < s0
  · clear hh
    go_upto_region 3 with fail
    go_wp2_with (refine wpList_store_wts rfl (.tmp 2) (.tmp 93) rfl (W.heap.size + 1) rfl zeroL rfl rfl zeroL_one zeroL H2.out.1 rfl ?_)
    refine bodyPost_ret (results_wts (by rfl) _ _ (W.heap.size + 1) zeroL (by rfl) (setRow_heap _ _ _ _ _ _ H2.out.1) rfl) rfl ⟨rfl, ?_⟩
    exact below_setRow H2.out.2 _ _ (by omega)
  by_cases h2 : s1 ≠ 2 ∧ s1 ≠ 4
  · clear hh
    have q1 := h2.1
    have q2 := h2.2
    clear h2
    go_upto_region 3 with fail
    go_wp2_with (refine wpList_store_wts rfl (.tmp 2) (.tmp 93) rfl (W.heap.size + 1) rfl zeroL rfl rfl zeroL_one zeroL H2.out.1 rfl ?_)
    refine bodyPost_ret (results_wts (by rfl) _ _ (W.heap.size + 1) zeroL (by rfl) (setRow_heap _ _ _ _ _ _ H2.out.1) rfl) rfl ⟨rfl, ?_⟩
    exact below_setRow H2.out.2 _ _ (by omega)
  have h2' : s1 = 2 ∨ s1 = 4 := by omega
  clear h2
  by_cases h3 : s2 < 1
  · clear hh
    rcases h2' with rfl | rfl
    all_goals
      go_upto_region 3 with fail
      go_wp2_with (refine wpList_store_wts rfl (.tmp 2) (.tmp 93) rfl (W.heap.size + 1) rfl zeroL rfl rfl zeroL_one zeroL H2.out.1 rfl ?_)
      refine bodyPost_ret (results_wts (by rfl) _ _ (W.heap.size + 1) zeroL (by rfl) (setRow_heap _ _ _ _ _ _ H2.out.1) rfl) rfl ⟨rfl, ?_⟩
      exact below_setRow H2.out.2 _ _ (by omega)
  by_cases h4 : 2 < s2
  · clear hh
    rcases h2' with rfl | rfl
    all_goals
      go_upto_region 3 with fail
      go_wp2_with (refine wpList_store_wts rfl (.tmp 2) (.tmp 93) rfl (W.heap.size + 1) rfl zeroL rfl rfl zeroL_one zeroL H2.out.1 rfl ?_)
      refine bodyPost_ret (results_wts (by rfl) _ _ (W.heap.size + 1) zeroL (by rfl) (setRow_heap _ _ _ _ _ _ H2.out.1) rfl) rfl ⟨rfl, ?_⟩
      exact below_setRow H2.out.2 _ _ (by omega)
  obtain ⟨rfl, rfl⟩ : s1 = 2 ∧ s2 = 2 := by
    have h5 : s2 = 1 ∨ s2 = 2 := by omega
    rcases h2' with rfl | rfl <;> rcases h5 with rfl | rfl <;> omega
  clear hh h2' h3 h4
  go_upto_region 3 with fail
  go_wp2_with (refine wpList_store_wts rfl (.tmp 2) (.tmp 93) rfl (W.heap.size + 1) rfl zeroL rfl rfl zeroL_one zeroL H2.out.1 rfl ?_)
  refine bodyPost_ret (results_wts (by rfl) _ _ (W.heap.size + 1) zeroL (by rfl) (setRow_heap _ _ _ _ _ _ H2.out.1) rfl) rfl ⟨rfl, ?_⟩
  exact below_setRow H2.out.2 _ _ (by omega)
set_option maxRecDepth 100000 in
set_option maxHeartbeats 16000000 in
theorem made_no2 (W : World) (s0 s1 s2 s3 s4 s5 : Int) (A : Option Addr) (n c : Nat) (hh : (¬ s0 < 2 ∧ ¬ 12 < s0) ∧ (s1 = 2 ∧ s2 = 1) ∧ (s3 < 1 ∨ 2 < s3 ∨ s4 < 2 ∨ 8 < s4 ∨ s5 < 1 ∨ 4 < s5 ∨ n < 1 ∨ 80 < n)) :
    Calls Try.prog 19 #[specV s0 s1 s2 s3 s4 s5 (.slice A n c)] W (MdNo W) := by
  unfold specV MdNo
  have HH := Lib.hid hh
  clear hh
  go_enter Try.func19, Try.ntmps19
  go_upto_region 1 with fail
  change Code.wp _ _ _ _ ((W.alloc (.cells #[.int .i64 s0, .int .i64 s1, .int .i64 s2, .int .i64 s3, .int .i64 s4, .int .i64 s5, .slice A n c] 49)).alloc (.cells zeroL.toArray 31))
  obtain ⟨w1, hw1⟩ : ∃ w1, w1 = (W.alloc (.cells #[.int .i64 s0, .int .i64 s1, .int .i64 s2, .int .i64 s3, .int .i64 s4, .int .i64 s5, .slice A n c] 49)).alloc (.cells zeroL.toArray 31) := ⟨_, rfl⟩
  rw [← hw1]
  have hb : w1.heap[W.heap.size]? = some (.cells [.int .i64 s0, .int .i64 s1, .int .i64 s2, .int .i64 s3, .int .i64 s4, .int .i64 s5, .slice A n c].toArray 49 (0, 0)) := by rw [hw1]; rw [Below.heap_alloc _ _ _ (by simp)]; exact heap_alloc_new W _
  have hb2 : w1.heap[W.heap.size + 1]? = some (.cells zeroL.toArray 31 (0, 0)) := by
    rw [hw1]
    have := heap_alloc_new (W.alloc (.cells #[.int .i64 s0, .int .i64 s1, .int .i64 s2, .int .i64 s3, .int .i64 s4, .int .i64 s5, .slice A n c] 49)) (.cells zeroL.toArray 31)
    simpa using this
  have hbe : Below W.heap.size W w1 := by rw [hw1]; exact ((Below.refl _ _).alloc (Nat.le_refl _) _).alloc (by simp) _
  have hs : w1.heap.size = W.heap.size + 2 := by rw [hw1]; simp
  have c0 : w1.cell? ⟨W.heap.size, 0, none⟩ = some (.int .i64 s0) := by rw [cell_of_row _ _ 0 _ _ _ hb]; rfl
  have c1 : w1.cell? ⟨W.heap.size, 1, none⟩ = some (.int .i64 s1) := by rw [cell_of_row _ _ 1 _ _ _ hb]; rfl
  have c2 : w1.cell? ⟨W.heap.size, 2, none⟩ = some (.int .i64 s2) := by rw [cell_of_row _ _ 2 _ _ _ hb]; rfl
  have c3 : w1.cell? ⟨W.heap.size, 3, none⟩ = some (.int .i64 s3) := by rw [cell_of_row _ _ 3 _ _ _ hb]; rfl
  have c4 : w1.cell? ⟨W.heap.size, 4, none⟩ = some (.int .i64 s4) := by rw [cell_of_row _ _ 4 _ _ _ hb]; rfl
  have c5 : w1.cell? ⟨W.heap.size, 5, none⟩ = some (.int .i64 s5) := by rw [cell_of_row _ _ 5 _ _ _ hb]; rfl
  have H1 := Lib.hid (And.intro hb (And.intro hb2 (And.intro hbe hs)))
  clear hw1 hb hb2 hbe hs
  go_upto_region 2 with fail
  simp only [List.append]
  obtain ⟨w2, hw2⟩ : ∃ w2, w2 = w1.alloc (.cells #[.int .i64 s0, .int .i64 s1, .int .i64 s2, .int .i64 s3, .int .i64 s4, .int .i64 s5] 47) := ⟨_, rfl⟩
  rw [← hw2]
  have hb2 : Below w1.heap.size w1 w2 := by rw [hw2]; exact (Below.refl _ _).alloc (Nat.le_refl _) _
  have hz := (hb2.block _ (Array.getElem?_eq_some_iff.1 H1.out.2.1).1).trans H1.out.2.1
  have ha : w2.heap[w1.heap.size]? = some (.cells [.int .i64 s0, .int .i64 s1, .int .i64 s2, .int .i64 s3, .int .i64 s4, .int .i64 s5].toArray 47 (0, 0)) := by rw [hw2]; exact heap_alloc_new w1 _
  have a0 : w2.cell? ⟨w1.heap.size, 0, none⟩ = some (.int .i64 s0) := by rw [cell_of_row _ _ 0 _ _ _ ha]; rfl
  have a1 : w2.cell? ⟨w1.heap.size, 1, none⟩ = some (.int .i64 s1) := by rw [cell_of_row _ _ 1 _ _ _ ha]; rfl
  have a2 : w2.cell? ⟨w1.heap.size, 2, none⟩ = some (.int .i64 s2) := by rw [cell_of_row _ _ 2 _ _ _ ha]; rfl
  have a3 : w2.cell? ⟨w1.heap.size, 3, none⟩ = some (.int .i64 s3) := by rw [cell_of_row _ _ 3 _ _ _ ha]; rfl
  have a4 : w2.cell? ⟨w1.heap.size, 4, none⟩ = some (.int .i64 s4) := by rw [cell_of_row _ _ 4 _ _ _ ha]; rfl
  have a5 : w2.cell? ⟨w1.heap.size, 5, none⟩ = some (.int .i64 s5) := by rw [cell_of_row _ _ 5 _ _ _ ha]; rfl
  have a6 : w2.cell? ⟨W.heap.size, 6, none⟩ = some (.slice A n c) := by rw [cell_of_row _ _ 6 _ _ _ ((hb2.block _ (Array.getElem?_eq_some_iff.1 H1.out.1).1).trans H1.out.1)]; rfl
  have H2 := Lib.hid (And.intro hz (below_chain H1.out.2.2.1 hb2))
  clear hw2 hb2 hz ha c0 c1 c2 c3 c4 c5
  have hh := HH.out
  clear HH
  obtain ⟨⟨g0, g1⟩, g2, hh⟩ := hh
  obtain ⟨rfl, rfl⟩ := g2
  by_cases h3 : s3 < 1
  · clear hh
    go_upto_region 3 with fail
    go_wp2_with (refine wpList_store_wts rfl (.tmp 2) (.tmp 93) rfl (W.heap.size + 1) rfl zeroL rfl rfl zeroL_one zeroL H2.out.1 rfl ?_)
    refine bodyPost_ret (results_wts (by rfl) _ _ (W.heap.size + 1) zeroL (by rfl) (setRow_heap _ _ _ _ _ _ H2.out.1) rfl) rfl ⟨rfl, ?_⟩
    exact below_setRow H2.out.2 _ _ (by omega)
  by_cases h4 : 2 < s3
  · clear hh
    go_upto_region 3 with fail
    go_wp2_with (refine wpList_store_wts rfl (.tmp 2) (.tmp 93) rfl (W.heap.size + 1) rfl zeroL rfl rfl zeroL_one zeroL H2.out.1 rfl ?_)
    refine bodyPost_ret (results_wts (by rfl) _ _ (W.heap.size + 1) zeroL (by rfl) (setRow_heap _ _ _ _ _ _ H2.out.1) rfl) rfl ⟨rfl, ?_⟩
    exact below_setRow H2.out.2 _ _ (by omega)
  by_cases h5 : s4 < 2
  · clear hh
    go_upto_region 3 with fail
    go_wp2_with (refine wpList_store_wts rfl (.tmp 2) (.tmp 93) rfl (W.heap.size + 1) rfl zeroL rfl rfl zeroL_one zeroL H2.out.1 rfl ?_)
    refine bodyPost_ret (results_wts (by rfl) _ _ (W.heap.size + 1) zeroL (by rfl) (setRow_heap _ _ _ _ _ _ H2.out.1) rfl) rfl ⟨rfl, ?_⟩
    exact below_setRow H2.out.2 _ _ (by omega)
  by_cases h6 : 8 < s4
  · clear hh
    go_upto_region 3 with fail
    go_wp2_with (refine wpList_store_wts rfl (.tmp 2) (.tmp 93) rfl (W.heap.size + 1) rfl zeroL rfl rfl zeroL_one zeroL H2.out.1 rfl ?_)
    refine bodyPost_ret (results_wts (by rfl) _ _ (W.heap.size + 1) zeroL (by rfl) (setRow_heap _ _ _ _ _ _ H2.out.1) rfl) rfl ⟨rfl, ?_⟩
    exact below_setRow H2.out.2 _ _ (by omega)
  by_cases h7 : s5 < 1
  · clear hh
    go_upto_region 3 with fail
    go_wp2_with (refine wpList_store_wts rfl (.tmp 2) (.tmp 93) rfl (W.heap.size + 1) rfl zeroL rfl rfl zeroL_one zeroL H2.out.1 rfl ?_)
    refine bodyPost_ret (results_wts (by rfl) _ _ (W.heap.size + 1) zeroL (by rfl) (setRow_heap _ _ _ _ _ _ H2.out.1) rfl) rfl ⟨rfl, ?_⟩
    exact below_setRow H2.out.2 _ _ (by omega)
  by_cases h8 : 4 < s5
  · clear hh
    go_upto_region 3 with fail
    go_wp2_with (refine wpList_store_wts rfl (.tmp 2) (.tmp 93) rfl (W.heap.size + 1) rfl zeroL rfl rfl zeroL_one zeroL H2.out.1 rfl ?_)
    refine bodyPost_ret (results_wts (by rfl) _ _ (W.heap.size + 1) zeroL (by rfl) (setRow_heap _ _ _ _ _ _ H2.out.1) rfl) rfl ⟨rfl, ?_⟩
    exact below_setRow H2.out.2 _ _ (by omega)
  have hn : n < 1 ∨ 80 < n := by omega
  clear hh
  by_cases h9 : n < 1
  · obtain rfl : n = 0 := by omega
    clear hn h9
    go_upto_region 3 with fail
    go_wp2_with (refine wpList_store_wts rfl (.tmp 2) (.tmp 93) rfl (W.heap.size + 1) rfl zeroL rfl rfl zeroL_one zeroL H2.out.1 rfl ?_)
    refine bodyPost_ret (results_wts (by rfl) _ _ (W.heap.size + 1) zeroL (by rfl) (setRow_heap _ _ _ _ _ _ H2.out.1) rfl) rfl ⟨rfl, ?_⟩
    exact below_setRow H2.out.2 _ _ (by omega)
  have hn : 80 < (n : Int) := by omega
  have hn1 : ¬ (n : Int) < 1 := by omega
  have hn0 : ¬ n = 0 := by omega
  go_upto_region 3 with fail
  go_wp2_with (refine wpList_store_wts rfl (.tmp 2) (.tmp 93) rfl (W.heap.size + 1) rfl zeroL rfl rfl zeroL_one zeroL H2.out.1 rfl ?_)
  refine bodyPost_ret (results_wts (by rfl) _ _ (W.heap.size + 1) zeroL (by rfl) (setRow_heap _ _ _ _ _ _ H2.out.1) rfl) rfl ⟨rfl, ?_⟩
  exact below_setRow H2.out.2 _ _ (by omega)
set_option maxRecDepth 100000 in
set_option maxHeartbeats 16000000 in
theorem made_no3 (W : World) (s0 s1 s2 s3 s4 s5 : Int) (A : Option Addr) (n c : Nat) (hh : (¬ s0 < 2 ∧ ¬ 12 < s0) ∧ (s1 = 4 ∧ (s2 = 1 ∨ s2 = 2)) ∧ (s3 < 1 ∨ 2 < s3 ∨ s4 < 2 ∨ 8 < s4 ∨ s5 < 1 ∨ 4 < s5 ∨ n < 1 ∨ 80 < n)) :
    Calls Try.prog 19 #[specV s0 s1 s2 s3 s4 s5 (.slice A n c)] W (MdNo W) := by
  unfold specV MdNo
  have HH := Lib.hid hh
  clear hh
  go_enter Try.func19, Try.ntmps19
  go_upto_region 1 with fail
  change Code.wp _ _ _ _ ((W.alloc (.cells #[.int .i64 s0, .int .i64 s1, .int .i64 s2, .int .i64 s3, .int .i64 s4, .int .i64 s5, .slice A n c] 49)).alloc (.cells zeroL.toArray 31))
  obtain ⟨w1, hw1⟩ : ∃ w1, w1 = (W.alloc (.cells #[.int .i64 s0, .int .i64 s1, .int .i64 s2, .int .i64 s3, .int .i64 s4, .int .i64 s5, .slice A n c] 49)).alloc (.cells zeroL.toArray 31) := ⟨_, rfl⟩
  rw [← hw1]
  have hb : w1.heap[W.heap.size]? = some (.cells [.int .i64 s0, .int .i64 s1, .int .i64 s2, .int .i64 s3, .int .i64 s4, .int .i64 s5, .slice A n c].toArray 49 (0, 0)) := by rw [hw1]; rw [Below.heap_alloc _ _ _ (by simp)]; exact heap_alloc_new W _
  have hb2 : w1.heap[W.heap.size + 1]? = some (.cells zeroL.toArray 31 (0, 0)) := by
    rw [hw1]
    have := heap_alloc_new (W.alloc (.cells #[.int .i64 s0, .int .i64 s1, .int .i64 s2, .int .i64 s3, .int .i64 s4, .int .i64 s5, .slice A n c] 49)) (.cells zeroL.toArray 31)
    simpa using this
  have hbe : Below W.heap.size W w1 := by rw [hw1]; exact ((Below.refl _ _).alloc (Nat.le_refl _) _).alloc (by simp) _
  have hs : w1.heap.size = W.heap.size + 2 := by rw [hw1]; simp
  have c0 : w1.cell? ⟨W.heap.size, 0, none⟩ = some (.int .i64 s0) := by rw [cell_of_row _ _ 0 _ _ _ hb]; rfl
  have c1 : w1.cell? ⟨W.heap.size, 1, none⟩ = some (.int .i64 s1) := by rw [cell_of_row _ _ 1 _ _ _ hb]; rfl
  have c2 : w1.cell? ⟨W.heap.size, 2, none⟩ = some (.int .i64 s2) := by rw [cell_of_row _ _ 2 _ _ _ hb]; rfl
  have c3 : w1.cell? ⟨W.heap.size, 3, none⟩ = some (.int .i64 s3) := by rw [cell_of_row _ _ 3 _ _ _ hb]; rfl
  have c4 : w1.cell? ⟨W.heap.size, 4, none⟩ = some (.int .i64 s4) := by rw [cell_of_row _ _ 4 _ _ _ hb]; rfl
  have c5 : w1.cell? ⟨W.heap.size, 5, none⟩ = some (.int .i64 s5) := by rw [cell_of_row _ _ 5 _ _ _ hb]; rfl
  have H1 := Lib.hid (And.intro hb (And.intro hb2 (And.intro hbe hs)))
  clear hw1 hb hb2 hbe hs
  go_upto_region 2 with fail
  simp only [List.append]
  obtain ⟨w2, hw2⟩ : ∃ w2, w2 = w1.alloc (.cells #[.int .i64 s0, .int .i64 s1, .int .i64 s2, .int .i64 s3, .int .i64 s4, .int .i64 s5] 47) := ⟨_, rfl⟩
  rw [← hw2]
  have hb2 : Below w1.heap.size w1 w2 := by rw [hw2]; exact (Below.refl _ _).alloc (Nat.le_refl _) _
  have hz := (hb2.block _ (Array.getElem?_eq_some_iff.1 H1.out.2.1).1).trans H1.out.2.1
  have ha : w2.heap[w1.heap.size]? = some (.cells [.int .i64 s0, .int .i64 s1, .int .i64 s2, .int .i64 s3, .int .i64 s4, .int .i64 s5].toArray 47 (0, 0)) := by rw [hw2]; exact heap_alloc_new w1 _
  have a0 : w2.cell? ⟨w1.heap.size, 0, none⟩ = some (.int .i64 s0) := by rw [cell_of_row _ _ 0 _ _ _ ha]; rfl
  have a1 : w2.cell? ⟨w1.heap.size, 1, none⟩ = some (.int .i64 s1) := by rw [cell_of_row _ _ 1 _ _ _ ha]; rfl
  have a2 : w2.cell? ⟨w1.heap.size, 2, none⟩ = some (.int .i64 s2) := by rw [cell_of_row _ _ 2 _ _ _ ha]; rfl
  have a3 : w2.cell? ⟨w1.heap.size, 3, none⟩ = some (.int .i64 s3) := by rw [cell_of_row _ _ 3 _ _ _ ha]; rfl
  have a4 : w2.cell? ⟨w1.heap.size, 4, none⟩ = some (.int .i64 s4) := by rw [cell_of_row _ _ 4 _ _ _ ha]; rfl
  have a5 : w2.cell? ⟨w1.heap.size, 5, none⟩ = some (.int .i64 s5) := by rw [cell_of_row _ _ 5 _ _ _ ha]; rfl
  have a6 : w2.cell? ⟨W.heap.size, 6, none⟩ = some (.slice A n c) := by rw [cell_of_row _ _ 6 _ _ _ ((hb2.block _ (Array.getElem?_eq_some_iff.1 H1.out.1).1).trans H1.out.1)]; rfl
  have H2 := Lib.hid (And.intro hz (below_chain H1.out.2.2.1 hb2))
  clear hw2 hb2 hz ha c0 c1 c2 c3 c4 c5
  have hh := HH.out
  clear HH
  obtain ⟨⟨g0, g1⟩, g2, hh⟩ := hh
  obtain ⟨rfl, g2⟩ := g2
  have g3 : ¬ s2 < 1 := by omega
  have g4 : ¬ 2 < s2 := by omega
  have g5 : (2 * s2 == 0) = false := by simp; omega
  have g5' : (s2 * 2 == 0) = false := by simp; omega
  have g6 : ((4 : Int) % (2 * s2) != 0) = false := by rcases g2 with rfl | rfl <;> decide
  clear g2
  by_cases h3 : s3 < 1
  · clear hh
    go_upto_region 3 with fail
    go_wp2_with (refine wpList_store_wts rfl (.tmp 2) (.tmp 93) rfl (W.heap.size + 1) rfl zeroL rfl rfl zeroL_one zeroL H2.out.1 rfl ?_)
    refine bodyPost_ret (results_wts (by rfl) _ _ (W.heap.size + 1) zeroL (by rfl) (setRow_heap _ _ _ _ _ _ H2.out.1) rfl) rfl ⟨rfl, ?_⟩
    exact below_setRow H2.out.2 _ _ (by omega)
  by_cases h4 : 2 < s3
  · clear hh
    go_upto_region 3 with fail
    go_wp2_with (refine wpList_store_wts rfl (.tmp 2) (.tmp 93) rfl (W.heap.size + 1) rfl zeroL rfl rfl zeroL_one zeroL H2.out.1 rfl ?_)
    refine bodyPost_ret (results_wts (by rfl) _ _ (W.heap.size + 1) zeroL (by rfl) (setRow_heap _ _ _ _ _ _ H2.out.1) rfl) rfl ⟨rfl, ?_⟩
    exact below_setRow H2.out.2 _ _ (by omega)
  by_cases h5 : s4 < 2
  · clear hh
    go_upto_region 3 with fail
    go_wp2_with (refine wpList_store_wts rfl (.tmp 2) (.tmp 93) rfl (W.heap.size + 1) rfl zeroL rfl rfl zeroL_one zeroL H2.out.1 rfl ?_)
    refine bodyPost_ret (results_wts (by rfl) _ _ (W.heap.size + 1) zeroL (by rfl) (setRow_heap _ _ _ _ _ _ H2.out.1) rfl) rfl ⟨rfl, ?_⟩
    exact below_setRow H2.out.2 _ _ (by omega)
  by_cases h6 : 8 < s4
  · clear hh
    go_upto_region 3 with fail
    go_wp2_with (refine wpList_store_wts rfl (.tmp 2) (.tmp 93) rfl (W.heap.size + 1) rfl zeroL rfl rfl zeroL_one zeroL H2.out.1 rfl ?_)
    refine bodyPost_ret (results_wts (by rfl) _ _ (W.heap.size + 1) zeroL (by rfl) (setRow_heap _ _ _ _ _ _ H2.out.1) rfl) rfl ⟨rfl, ?_⟩
    exact below_setRow H2.out.2 _ _ (by omega)
  by_cases h7 : s5 < 1
  · clear hh
    go_upto_region 3 with fail
    go_wp2_with (refine wpList_store_wts rfl (.tmp 2) (.tmp 93) rfl (W.heap.size + 1) rfl zeroL rfl rfl zeroL_one zeroL H2.out.1 rfl ?_)
    refine bodyPost_ret (results_wts (by rfl) _ _ (W.heap.size + 1) zeroL (by rfl) (setRow_heap _ _ _ _ _ _ H2.out.1) rfl) rfl ⟨rfl, ?_⟩
    exact below_setRow H2.out.2 _ _ (by omega)
  by_cases h8 : 4 < s5
  · clear hh
    go_upto_region 3 with fail
    go_wp2_with (refine wpList_store_wts rfl (.tmp 2) (.tmp 93) rfl (W.heap.size + 1) rfl zeroL rfl rfl zeroL_one zeroL H2.out.1 rfl ?_)
    refine bodyPost_ret (results_wts (by rfl) _ _ (W.heap.size + 1) zeroL (by rfl) (setRow_heap _ _ _ _ _ _ H2.out.1) rfl) rfl ⟨rfl, ?_⟩
    exact below_setRow H2.out.2 _ _ (by omega)
  have hn : n < 1 ∨ 80 < n := by omega
  clear hh
  by_cases h9 : n < 1
  · obtain rfl : n = 0 := by omega
    clear hn h9
    go_upto_region 3 with fail
    go_wp2_with (refine wpList_store_wts rfl (.tmp 2) (.tmp 93) rfl (W.heap.size + 1) rfl zeroL rfl rfl zeroL_one zeroL H2.out.1 rfl ?_)
    refine bodyPost_ret (results_wts (by rfl) _ _ (W.heap.size + 1) zeroL (by rfl) (setRow_heap _ _ _ _ _ _ H2.out.1) rfl) rfl ⟨rfl, ?_⟩
    exact below_setRow H2.out.2 _ _ (by omega)
  have hn : 80 < (n : Int) := by omega
  have hn1 : ¬ (n : Int) < 1 := by omega
  have hn0 : ¬ n = 0 := by omega
  go_upto_region 3 with fail
  go_wp2_with (refine wpList_store_wts rfl (.tmp 2) (.tmp 93) rfl (W.heap.size + 1) rfl zeroL rfl rfl zeroL_one zeroL H2.out.1 rfl ?_)
  refine bodyPost_ret (results_wts (by rfl) _ _ (W.heap.size + 1) zeroL (by rfl) (setRow_heap _ _ _ _ _ _ H2.out.1) rfl) rfl ⟨rfl, ?_⟩
  exact below_setRow H2.out.2 _ _ (by omega)
end Go.Proofs.Ytfhaebaegkpkhaa.Fil
