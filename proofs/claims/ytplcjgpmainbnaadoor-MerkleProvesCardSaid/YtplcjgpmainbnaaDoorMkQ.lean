/- Two digests, compared. -/
import Derived.Test.YtplcjgpmainbnaaDoorMkA
import Derived.DeepKeys
set_option linter.unusedVariables false
set_option linter.unusedSimpArgs false
namespace Go.Proofs.YtplcjgpmainbnaaDoor.MkW
open Go.RowKit OwnS ShaW
def litB (x : Nat) : Lit := .int .u8 (x : Int)
theorem mapM_some {α β : Type} {f : α → Option β} {g : α → β} : ∀ (l : List α), (∀ i ∈ l, f i = some (g i)) → l.mapM f = some (l.map g)
  | [], _ => rfl
  | i :: l, h => by
    rw [List.mapM_cons, h i (by simp), mapM_some l (fun j hj => h j (by simp [hj]))]
    rfl
theorem flat_one {α : Type} : ∀ (l : List α), (l.map fun x => [x]).flatten = l
  | [] => rfl
  | x :: l => by rw [List.map_cons, List.flatten_cons, flat_one l]; rfl
theorem lits_inj : ∀ {a b : List Nat}, a.map litB = b.map litB → a = b
  | [], [], _ => rfl
  | [], _ :: _, h => by simp at h
  | _ :: _, [], h => by simp at h
  | x :: a, y :: b, h => by
    simp only [List.map_cons, List.cons.injEq] at h
    rw [lits_inj h.2]
    have := h.1
    unfold litB at this
    injection this with _ h1
    rw [Int.ofNat_inj.1 h1]
theorem cells_dig : Tryd.prog.cellsOf 24 = 32 := by kernel_rfl
theorem cells_u8 : Tryd.prog.cellsOf 5 = 1 := by kernel_rfl
theorem lits_u8 (x : Nat) (hx : x < 256) : Tryd.prog.keyLits 2 5 [.int .u8 (x : Int)] = some [litB x] := by
  have hu : Tryd.prog.underlying 5 = some (.int .u8) := by kernel_rfl
  have hw : (Lit.int .u8 (x : Int)).wf = true := by
    have h0 : IntKind.u8.min = 0 := rfl
    have h1 : IntKind.u8.max = 255 := rfl
    simp [Lit.wf, h0, h1]
    omega
  unfold Program.keyLits
  simp only [hu]
  rw [if_pos ⟨trivial, hw⟩]
  rfl
theorem lits_dig (a : List Nat) (h : Dig a) : Tryd.prog.keyLits 3 24 (digV a).cells.toList = some (a.map litB) := by
  have hu : Tryd.prog.underlying 24 = some (.array 32 5) := by kernel_rfl
  have hc : (digV a).cells.toList = bytesV a := by simp [digV, Value.cells]
  rw [hc]
  unfold Program.keyLits
  simp only [hu]
  rw [if_pos (by rw [bytesV_length, h.1, cells_dig])]
  have h1 : (List.range 32).mapM (fun i => Tryd.prog.keyLits 2 5 (((bytesV a).drop (i * Tryd.prog.cellsOf 5)).take (Tryd.prog.cellsOf 5))) = some ((List.range 32).map fun i => [litB (a.getD i 0)]) := by
    refine mapM_some _ fun i hi => ?_
    have hi' : i < a.length := by rw [h.1]; exact List.mem_range.1 hi
    rw [cells_u8, Nat.mul_one]
    have hb : ((bytesV a).drop i).take 1 = [.int .u8 ((a[i] : Nat) : Int)] := by
      rw [List.take_one, List.head?_drop]
      simp [bytesV, hi']
    rw [hb, lits_u8 _ (h.2 _ (List.getElem_mem hi'))]
    simp [hi']
  rw [h1]
  simp only [Option.map_some, Option.some.injEq]
  have h2 : (List.range 32).map (fun i => [litB (a.getD i 0)]) = (a.map litB).map fun x => [x] := by
    refine List.ext_getElem (by simp [h.1]) fun i h1 h2 => ?_
    have hi' : i < a.length := by simpa using h2
    simp [hi']
  rw [h2, flat_one]
theorem run_equal_dig (w : World) (a b : List Nat) (ha : Dig a) (hb : Dig b) : (Op.equalIn 10000 24 (digV a) (digV b)).run Tryd.prog w = .ok (decide (a = b)) w := by
  have hk : Tryd.prog.keyTypeAt 2 24 = true := by kernel_rfl
  have hf : ∀ d, Dig d → (digV d).formed Tryd.prog 24 = true := fun d hd => by
    have hu : Tryd.prog.underlying 24 = some (.array 32 5) := by kernel_rfl
    unfold digV Value.formed
    simp only [hu]
    rw [cells_dig, List.size_toArray, bytesV_length, hd.1]
    rfl
  obtain ⟨r, hr, hiff⟩ := run_equalIn_deep (P := Tryd.prog) 9998 2 24 hk w 3 3 (digV a) (digV b) _ _ (hf a ha) (hf b hb) (lits_dig a ha) (lits_dig b hb)
  have e : r = decide (a = b) := by
    by_cases h : a = b
    · rw [decide_eq_true h]; exact hiff.2 (by rw [h])
    · rw [decide_eq_false h]
      cases hr' : r with
      | false => rfl
      | true => exact absurd (lits_inj (hiff.1 hr')) h
  rw [← e]
  exact hr
theorem run_eql_dig (w : World) (a b : List Nat) (ha : Dig a) (hb : Dig b) : (binOp .eql 24 (digV a) (digV b)).run Tryd.prog w = .ok (.bool (decide (a = b))) w := by
  have := run_equal_dig w a b ha hb
  unfold digV at *
  rw [run_eql_struct, this]
  rfl
theorem run_neq_dig (w : World) (a b : List Nat) (ha : Dig a) (hb : Dig b) : (binOp .neq 24 (digV a) (digV b)).run Tryd.prog w = .ok (.bool (!decide (a = b))) w := by
  have := run_equal_dig w a b ha hb
  unfold digV at *
  rw [run_neq_struct, this]
  rfl
theorem run_guard_dig (op : BinOp) (x y : Operand) (w : World) (a b : List Nat) : (eqGuard op 24 x y (digV a) (digV b)).run Tryd.prog w = .ok () w :=
  run_eqGuard_agg (P := Tryd.prog) (w := w) op 24 x y _ _ (by kernel_rfl)
end Go.Proofs.YtplcjgpmainbnaaDoor.MkW
