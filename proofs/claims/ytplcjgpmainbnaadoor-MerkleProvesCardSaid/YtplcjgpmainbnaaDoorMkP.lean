/- merkle.Prove. -/
import Derived.Test.YtplcjgpmainbnaaDoorMkN
set_option linter.unusedVariables false
set_option linter.unusedSimpArgs false
namespace Go.Proofs.YtplcjgpmainbnaaDoor.MkW
open Go.RowKit OwnS ShaW
attribute [local go_sem ↓] Kit.execOp_call_slot
attribute [local go_sem] Kit.callSlot_func
/-- A list of digests, reversed: whatever reverses it. -/
def Revs (L : List (List Nat)) : Prop := ∀ (W' : World) (base : Nat) (v' : Value), OwnD W' base v' L → Calls Tryd.prog 55 #[v'] W' (RevPost W' base v' L)
theorem revs_few (L : List (List Nat)) (h : L.length ≤ 1) : Revs L := fun W' base v' ho => reverse_few W' base v' L ho h
theorem OwnD.mono {w : World} {base base' : Nat} {v : Value} {ds : List (List Nat)} (h : OwnD w base v ds) (hb : base' ≤ base) : OwnD w base' v ds := ⟨h.own.mono hb, h.dig⟩
set_option maxRecDepth 100000 in
theorem Prove_some (W : World) (v : Value) (hs : List Value) (ls : List (List Nat)) (i : Nat) (hG : Glob W) (h : RowsAt W v hs ls) (hn : ls.length ≤ 1000000) (hl : ∀ l ∈ ls, l.length ≤ 1000000) (hi : i < ls.length)
    (hrev : Revs ((partsOf ls.length i).map (rootOf (ls.map leafH)))) : Calls Tryd.prog 18 #[.int .i64 i, v] W (ProofPost W (proofN i (ls.map leafH))) := by
  obtain ⟨A, c, rfl, -, -⟩ := h.sees.form
  have hc := digests_any W _ hs ls hG h hn hl
  obtain ⟨ds, hds⟩ : ∃ ds, ds = ls.map leafH := ⟨_, rfl⟩
  have hdl : ds.length = ls.length := by rw [hds, List.length_map]
  rw [← hds] at hc hrev ⊢
  rw [← hdl] at hrev
  have hp := fun (w2 : World) (v2 : Value) (hb : Below W.heap.size W w2) (hd : DigsAt w2 v2 ds) => prove_some w2 v2 ds i (hG.new hb) hd (by omega) (by omega) hrev
  have H := Lib.hid (And.intro hc (And.intro hp hdl))
  clear hc hp hG h hl hds hdl hrev
  go_enter Tryd.func18, Tryd.ntmps18
  go_wp2_with (first | (go_at_call 36; (with_reducible refine Calls.mono H.out.1 ?_); rintro e w2 ⟨A2, c2, rfl, ho2, hb2⟩; have hp2 := H.out.2.1 _ _ hb2 ho2.digs; have H2 := Lib.hid (And.intro hp2 hb2); clear ho2 hb2 hp2) | (go_at_call 40; (with_reducible refine Calls.mono H2.out.1 ?_); rintro e w3 ⟨A3, c3, rfl, ho3, hb3⟩; have H3 := Lib.hid (And.intro ho3 hb3); clear ho3 hb3))
  go_ret2
  exact ⟨A3, c3, rfl, H3.out.1.mono H2.out.2.size, H2.out.2.trans (H3.out.2.mono H2.out.2.size)⟩
set_option maxRecDepth 100000 in
theorem Prove_none (W : World) (v : Value) (hs : List Value) (ls : List (List Nat)) (i : Int) (hG : Glob W) (h : RowsAt W v hs ls) (hn : ls.length ≤ 1000000) (hl : ∀ l ∈ ls, l.length ≤ 1000000) (hi : i < 0 ∨ (ls.length : Int) ≤ i) :
    Calls Tryd.prog 18 #[.int .i64 i, v] W fun e w' => e = .returned (.tuple #[.slice none 0 0, .int .i64 10]) ∧ Below W.heap.size W w' := by
  obtain ⟨A, c, rfl, -, -⟩ := h.sees.form
  have hc := digests_any W _ hs ls hG h hn hl
  obtain ⟨ds, hds⟩ : ∃ ds, ds = ls.map leafH := ⟨_, rfl⟩
  have hdl : ds.length = ls.length := by rw [hds, List.length_map]
  rw [← hds] at hc
  rw [← hdl] at hn hi
  have H := Lib.hid (And.intro hc (And.intro hi hn))
  clear hc hi hG h hl hds hdl hn
  go_enter Tryd.func18, Tryd.ntmps18
  go_wp2_with (first | (go_at_call 36; (with_reducible refine Calls.mono H.out.1 ?_); rintro e w2 ⟨A2, c2, rfl, ho2, hb2⟩; have H2 := Lib.hid hb2; clear ho2 hb2) | (go_at_call 40; (with_reducible refine Calls.mono (prove_none w2 A2 ds.length c2 i H.out.2.2 H.out.2.1) ?_); rintro e w3 ⟨rfl, hb3⟩; have H3 := Lib.hid hb3; clear hb3))
  go_ret2
  exact ⟨rfl, H2.out.trans (H3.out.mono H2.out.size)⟩
end Go.Proofs.YtplcjgpmainbnaaDoor.MkW
