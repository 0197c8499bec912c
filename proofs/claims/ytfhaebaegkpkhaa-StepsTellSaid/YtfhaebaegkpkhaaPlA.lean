/- steps.rows, steps.ones. -/
import Derived.Test.YtfhaebaegkpkhaaByt
import Derived.Test.YtfhaebaegkpkhaaStp
import Derived.Test.YtfhaebaegkpkhaaModAt
set_option linter.unusedVariables false
set_option linter.unusedSimpArgs false
namespace Go.Proofs.Ytfhaebaegkpkhaa.Pln
open Go.RowKit OwnS Byt Cfg Stp
attribute [local go_sem ↓] Kit.execOp_call_slot
attribute [local go_sem] Kit.callSlot_func
/-- Steps of one's own. -/
def SlcPost (W : World) (l : List Stp) (e : Ending) (w' : World) : Prop := ∃ A c, e = .returned (.slice A l.length c) ∧ Owns w' W.heap.size 5 (.slice A l.length c) l.length (flatS l) ∧ Below W.heap.size W w'
theorem infoS : ElemInfo Try.prog 69 (.agg #[.int .i64 0, .int .i64 0, .int .i64 0, .int .i64 0, .int .i64 0]) 5 40 := elemInfo (by kernel_rfl) rfl rfl
def lenOf : Value → Nat
  | .slice _ n _ => n
  | _ => 0
theorem cells_one (s : Stp) : ∀ u ∈ s.cells, u.oneCell' = true := by unfold Stp.cells; simp [Value.oneCell']
theorem src_step {w : World} {g : Nat} (s : Stp) (h : w.rangeAt g 0 s.cells) : Src Try.prog 5 154 (.slice (some ⟨g, 0, none⟩) 1 1) 1 s.cells w :=
  Src.ofSlice w Try.underlying154 ⟨g, 0, none⟩ 1 1 s.cells rfl (fun j u hj => by rw [add_lit]; exact h j u hj) (cells_one s)
set_option maxRecDepth 100000 in
set_option maxHeartbeats 4000000 in
theorem rows_any (W : World) (s : Stp) (kind : Int) (n : Nat) (hn : n ≤ 1000) : Calls Try.prog 111 #[s.val, .int .i64 kind, .int .i64 (n : Int)] W (SlcPost W (rowsL s kind n)) := by
  obtain ⟨k0, pos, layer, head, row⟩ := s
  unfold Stp.val SlcPost
  simp only [rowsL_length]
  go_enter Try.func111, Try.ntmps111
  go_wp2_with fail
  go_loopw [7] (fun v7 wr => ∃ (i : Nat) (A : Option Addr) (c : Nat), i ≤ n ∧ v7 = .slice A i c ∧ Hid (wr.heap[W.heap.size]? = some (.cells [.int .i64 kind, .int .i64 pos, .int .i64 layer, .int .i64 head, .int .i64 (i : Int)].toArray 69 (0, 0)) ∧ Owns wr (W.heap.size + 1) 5 (.slice A i c) i (flatS (rowsL ⟨k0, pos, layer, head, row⟩ kind i)) ∧ Below W.heap.size W wr)) (fun v7 _ => n - lenOf v7)
  case atStart => exact ⟨0, none, 0, Nat.zero_le _, rfl, heap_alloc_new W _, Owns.nil _ _ _, (Below.refl _ _).alloc (Nat.le_refl _) _⟩
  case round =>
    obtain ⟨i, A, c, hi, rfl, hI⟩ := hrel
    have c0 : wr.cell? ⟨W.heap.size, 0, none⟩ = some (.int .i64 kind) := by rw [cell_of_row _ _ 0 _ _ _ hI.out.1]; rfl
    have c1 : wr.cell? ⟨W.heap.size, 1, none⟩ = some (.int .i64 pos) := by rw [cell_of_row _ _ 1 _ _ _ hI.out.1]; rfl
    have c2 : wr.cell? ⟨W.heap.size, 2, none⟩ = some (.int .i64 layer) := by rw [cell_of_row _ _ 2 _ _ _ hI.out.1]; rfl
    have c3 : wr.cell? ⟨W.heap.size, 3, none⟩ = some (.int .i64 head) := by rw [cell_of_row _ _ 3 _ _ _ hI.out.1]; rfl
    have c4 : wr.cell? ⟨W.heap.size, 4, none⟩ = some (.int .i64 (i : Int)) := by rw [cell_of_row _ _ 4 _ _ _ hI.out.1]; rfl
    have hlt := (Array.getElem?_eq_some_iff.1 hI.out.1).1
    by_cases hin : i < n
    · have i1 : (i : Int) < (n : Int) := by omega
      have i2 : (i : Int) ≤ 1000 := by omega
      have HA := Lib.hid (And.intro (hI.out.2.1.alloc (.cells #[.int .i64 kind, .int .i64 pos, .int .i64 layer, .int .i64 head, .int .i64 (i : Int)] 69)) (And.intro (src_step (w := wr.alloc (.cells #[.int .i64 kind, .int .i64 pos, .int .i64 layer, .int .i64 head, .int .i64 (i : Int)] 69)) (g := wr.heap.size) ⟨kind, pos, layer, head, i⟩ (rangeAt_whole (cs := Stp.cells ⟨kind, pos, layer, head, i⟩) (heap_alloc_new wr _))) hlt))
      clear hlt
      go_wp2_with (at_builtin; refine wpList_append rfl (.tmp 19) (.tmp 21) 154 154 rfl (W.heap.size + 1) 69 _ 5 40 Try.underlying154 infoS _ i (flatS (rowsL ⟨k0, pos, layer, head, row⟩ kind i)) rfl (by exact HA.out.1) _ 1 (Stp.cells ⟨kind, pos, layer, head, i⟩) rfl (by exact HA.out.2.1) (by unfold maxLen; omega) (by omega) (by have := HA.out.2.2; rw [World.size_alloc]; omega) ?_; intro A5 c5 w5 hown hg hbl; have hk := (hg.block W.heap.size (by rw [World.size_alloc]; have := HA.out.2.2; omega) (fun e => by have := (HA.out.1.lt _ e.symm).1; omega)).trans ((Below.heap_alloc _ _ _ HA.out.2.2).trans hI.out.1); have d4 : w5.cell? ⟨W.heap.size, 4, none⟩ = some (.int .i64 (i : Int)) := (cell_of_row _ _ 4 _ _ _ hk).trans rfl; have f4 := frozen_of_row _ _ 4 _ _ hk; have hb5 := (hI.out.2.2.alloc hI.out.2.2.size _).grown hg (by simp; have := hI.out.2.2.size; omega) (fun k e => by have := (HA.out.1.lt k e).1; omega); have H5 := Lib.hid (And.intro hk (And.intro hown hb5)); clear hk hown hg hbl hb5 c0 c1 c2 c3 c4)
      go_roundw
      case rel =>
        refine ⟨i + 1, A5, c5, by omega, rfl, ?_, ?_, H5.out.2.2.setCell (p := ⟨W.heap.size, 4, none⟩) (Nat.le_refl _) _⟩
        · exact set_cells H5.out.1 4 _
        · rw [rowsL_succ, flatS_append]
          have h7 := H5.out.2.1.setCell (a := ⟨W.heap.size, 4, none⟩) (fun b hb => by have := (H5.out.2.1.lt b hb).1; simp; omega) (.int .i64 ((i : Int) + 1))
          simpa [flatS] using h7
      case measure => simp [lenOf]; omega
    · obtain rfl : n = i := by omega
      go_wp2_with fail
      go_ret
      exact ⟨A, c, rfl, hI.out.2.1.mono (by omega), hI.out.2.2⟩
end Go.Proofs.Ytfhaebaegkpkhaa.Pln
