/- slices.Reverse of digests. -/
import Derived.Test.YtplcjgpmainbnaaDoorMkA
import Derived.Test.YtplcjgpmainbnaaDoorRev
set_option linter.unusedVariables false
set_option linter.unusedSimpArgs false
namespace Go.Proofs.YtplcjgpmainbnaaDoor.MkW
open Go.RowKit OwnS ShaW RevL
theorem bytes_flat (ds : List (List Nat)) : bytesV ds.flatten = (ds.map bytesV).flatten := by unfold bytesV; rw [List.map_flatten]
theorem dig_bytes {ds : List (List Nat)} (h : ∀ d ∈ ds, Dig d) : ∀ d ∈ ds, (bytesV d).length = 32 := fun d hd => by rw [bytesV_length, (h d hd).1]
theorem wpList_store_mid32 {w : World} {ops : Array Oper} {rest : List Oper} {op : Oper} {a : Act} {Q : Exit → Act → World → Prop} (hgd : op.guard = none) (x y : Operand) (ho : op.op = .store 24 x y)
    (g o : Nat) (D : List Nat) (hx : a.eval x = .pointer (some ⟨g, o, none⟩)) (hy : a.eval y = digV D) (hD : D.length = 32) (ht : w.there g o 32)
    (h : wpList Tryd.prog ops Q rest (a.put op.dst undef) (w.setCells g o (bytesV D))) : wpList Tryd.prog ops Q (op :: rest) a w := by
  refine wpList_store_mid hgd 24 x y ho g o (bytesV D).toArray hx hy (by rw [List.size_toArray, bytesV_length, hD]; exact ht) (by rw [List.size_toArray, bytesV_length, hD]; exact dig_info) (all_oneCell_toArray (bytesV_one D)) ?_
  rwa [List.toList_toArray]
theorem wpQuiet_load_dig {ops : Array Oper} {C : World → Prop} {Q : Act → Prop} {rest : List Oper} {op : Oper} {a : Act} (hgd : op.guard = none) (x : Operand) (ho : op.op = .load 24 x)
    (g p : Nat) (hx : a.eval x = .pointer (some ⟨g, p, none⟩)) (D : List Nat) (hD : D.length = 32) (hS : ∀ w, C w → w.rangeAt g p (bytesV D))
    (h : wpQuiet Tryd.prog ops C Q rest (a.put op.dst (digV D))) : wpQuiet Tryd.prog ops C Q (op :: rest) a :=
  wpQuiet_load_mid hgd 24 x ho g p hx (bytesV D) _ hS Tryd.underlying24 rfl (by rw [bytesV_length, hD]; exact dig_info) h
theorem wpQuiet_load_dig_w {ops : Array Oper} {C : World → Prop} {Q : Act → Prop} {rest : List Oper} {op : Oper} {a : Act} (hw : Region.wanted op (yielded ops a.tmps) = true) (x : Operand) (ho : op.op = .load 24 x)
    (g p : Nat) (hx : a.eval x = .pointer (some ⟨g, p, none⟩)) (D : List Nat) (hD : D.length = 32) (hS : ∀ w, C w → w.rangeAt g p (bytesV D))
    (h : wpQuiet Tryd.prog ops C Q rest (a.put op.dst (digV D))) : wpQuiet Tryd.prog ops C Q (op :: rest) a :=
  wpQuiet_load_mid_w hw 24 x ho g p hx (bytesV D) _ hS Tryd.underlying24 rfl (by rw [bytesV_length, hD]; exact dig_info) h
/-- One's own digests, and what lies there. -/
theorem OwnD.at_ {w : World} {base : Nat} {v : Value} {ds : List (List Nat)} (h : OwnD w base v ds) (hn : 0 < ds.length) : ∃ g o cap, v = .slice (some ⟨g, o, none⟩) ds.length cap ∧ base ≤ g ∧ g < w.heap.size ∧ ds.length ≤ cap ∧ cap ≤ maxLen ∧ w.there g o (cap * 32) ∧ ∀ k d, ds[k]? = some d → w.rangeAt g (o + k * 32) (bytesV d) := by
  obtain ⟨g, o, cap, rfl, h1, h2, h3, h4, h5, h6⟩ := h.own.holds hn
  rw [bytes_flat] at h5
  exact ⟨g, o, cap, rfl, h1, h2, h3, h4, h6, at_flat (dig_bytes h.dig) h5⟩
theorem OwnD.put {w : World} {base g o cap : Nat} {ds : List (List Nat)} (h1 : base ≤ g) (h2 : g < w.heap.size) (h3 : ds.length ≤ cap) (h4 : cap ≤ maxLen) (h6 : w.there g o (cap * 32)) (hd : ∀ d ∈ ds, Dig d) (h : ∀ k d, ds[k]? = some d → w.rangeAt g (o + k * 32) (bytesV d)) : OwnD w base (.slice (some ⟨g, o, none⟩) ds.length cap) ds := by
  refine ⟨⟨by rw [bytesV_length, flat32 hd, Nat.mul_comm], .inr ⟨g, o, cap, rfl, h1, h2, h3, h4, ?_, h6⟩⟩, hd⟩
  rw [bytes_flat]
  exact rangeAt_flat (dig_bytes hd) h
theorem keeps_setCells {w w1 : World} {S : Nat → Prop} (h : Keeps w w1 S) {g : Nat} (hg : S g) (o : Nat) (vs : List Value) : Keeps w (w1.setCells g o vs) S := by
  obtain ⟨h1, h2, h3, h4⟩ := setCells_same g vs o w1
  exact ⟨h1.trans h.os, h2.trans h.tape, h3.trans h.output, by rw [h4]; exact h.size, fun b hb hS => (heap_setCells_ne w1 g o vs (by rintro rfl; exact hS hg)).trans (h.block b hb hS)⟩
/-- Reversed: one's own digests, from the last to the first. -/
def RevPost (W : World) (base : Nat) (v : Value) (ds : List (List Nat)) (e : Ending) (w' : World) : Prop := e = .returned (.tuple #[]) ∧ OwnD w' base v ds.reverse ∧ Keeps W w' (fun b => v.ownBlock = some b)
set_option maxRecDepth 100000 in
/-- None or one: no round. -/
theorem reverse_few (W : World) (base : Nat) (v : Value) (ds : List (List Nat)) (h : OwnD W base v ds) (hn : ds.length ≤ 1) : Calls Tryd.prog 55 #[v] W (RevPost W base v ds) := by
  obtain ⟨A, c, rfl, -, -⟩ := h.own.form
  have hr : ds.reverse = ds := by
    match ds, hn with
    | [], _ => rfl
    | [d], _ => rfl
  have H := Lib.hid (And.intro h hr)
  clear h hr
  go_enter Tryd.func55, Tryd.ntmps55
  go_wp2_with fail
  go_loopw [2, 3] (fun vi vj wr => vi = .int .i64 0 ∧ vj = .int .i64 ((ds.length : Int) - 1) ∧ wr = W) (fun vi _ _ => 0)
  case atStart => exact ⟨rfl, rfl, rfl⟩
  case round =>
    obtain ⟨rfl, rfl, rfl⟩ := hrel
    have hge : ¬ (0 : Int) < (ds.length : Int) - 1 := by omega
    go_wp2_with fail
    refine bodyPost_end (results_none rfl _ _ _) rfl ?_
    exact ⟨rfl, by rw [H.out.2]; exact H.out.1, Keeps.refl _ _⟩
end Go.Proofs.YtplcjgpmainbnaaDoor.MkW
