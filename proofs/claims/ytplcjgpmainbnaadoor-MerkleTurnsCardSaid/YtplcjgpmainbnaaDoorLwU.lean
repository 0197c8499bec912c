/- MerkleTurns: the calls' reading; the law. -/
import Derived.Test.YtplcjgpmainbnaaDoorLwT
import Derived.Test.YtplcjgpmainbnaaDoorMkT
set_option linter.unusedVariables false
set_option linter.unusedSimpArgs false
namespace Go.Proofs.YtplcjgpmainbnaaDoor.MkW
open Go Go.RowKit OwnS ShaW Go.Joins Go.ChangeShapes Go.WideShapes Go.Deep
attribute [local go_sem ↓] Kit.execOp_call_slot
attribute [local go_sem] Kit.callSlot_func
section
variable {H : Type} {enc : TypeId × Value → H} {w : World} {base : Nat} {spare : Nat → Bool} {held : Bool}
theorem three_any {P : Program} {t : TypeId} {f0 f1 f2 : Field} {fuel : Nat} {cs : List Value} {x : DataW H × List MemPlace} (ht : P.underlying t = some (.struct #[f0, f1, f2])) (hone : oneCellFields P #[f0, f1, f2] = true) (hC : P.cellsOf t = 3)
    (h : DataW.trod enc P w base spare held fuel t cs = some x) : ∃ (c0 c1 c2 : Value) (y0 y1 y2 : DataW H × List MemPlace) (n : Nat), cs = [c0, c1, c2] ∧ DataW.trod enc P w base spare held n f0.type [c0] = some y0 ∧ DataW.trod enc P w base spare held n f1.type [c1] = some y1 ∧ DataW.trod enc P w base spare held n f2.type [c2] = some y2 := by
  obtain ⟨y0, y1, y2, n, -, hl, h0, h1, h2⟩ := trod_struct3 ht h
  obtain ⟨o0, k0⟩ := hone_of hone 0 f0 rfl
  obtain ⟨o1, k1⟩ := hone_of hone 1 f1 rfl
  obtain ⟨o2, k2⟩ := hone_of hone 2 f2 rfl
  rw [hC] at hl
  match cs, hl with
  | [c0, c1, c2], _ =>
    simp [o0, k0] at h0
    simp [o1, k1] at h1
    simp [o2, k2] at h2
    exact ⟨c0, c1, c2, y0, y1, y2, n, rfl, h0, h1, h2⟩
theorem one_ask {fuel : Nat} {cs : List Value} {x : DataW H × List MemPlace} (h : DataW.trod enc Tryd.prog w base spare held fuel 54 cs = some x) : ∃ k : Ask, cs = askC k ∧ Sees w 1 k.h k.l.length (bytesV k.l) ∧ ∀ y ∈ k.l, y < 256 := by
  obtain ⟨d0, d1, d2, y0, y1, y2, n, rfl, h0, h1, h2⟩ := three_any Tryd.underlying54 (by kernel_rfl) (by kernel_rfl) h
  obtain ⟨a, ea, wa⟩ := Sl.one_int Tryd.underlying3 h0
  obtain ⟨b, eb, wb⟩ := Sl.one_int Tryd.underlying3 h1
  obtain ⟨l, hl, hb⟩ := open_bytes h2
  simp at ea eb
  subst ea eb
  exact ⟨⟨a, b, d2, l⟩, rfl, hl, hb⟩
theorem open_asks {fuel : Nat} {v : Value} {x : DataW H × List MemPlace} (h : DataW.trod enc Tryd.prog w base spare held fuel 49 [v] = some x) : ∃ xs : List Ask, AsksAt w v xs := by
  rcases Sl.open_slice Tryd.underlying49 h with rfl | ⟨a, len, cap, n, rfl, h1, h2, h3⟩
  · exact ⟨[], Sees.nil _ _, by simp⟩
  · have hc : Tryd.prog.cellsOf 54 = 3 := by kernel_rfl
    rw [hc] at h3
    have h4 : ∀ i, i < len → ∃ k : Ask, (Sees w 1 k.h k.l.length (bytesV k.l) ∧ ∀ y ∈ k.l, y < 256) ∧ ∀ (j : Nat) (c : Value), (askC k)[j]? = some c → w.cell? ((a.add (i * 3)).add j) = some c := fun i hi => by
      obtain ⟨cs, y, e1, e2⟩ := h3 i hi
      obtain ⟨k, rfl, hk⟩ := one_ask e2
      exact ⟨k, hk, (Sl.cells_get e1).2⟩
    obtain ⟨xs, hxs, hp⟩ := list_of len h4
    refine ⟨xs, ?_, fun k hk => by obtain ⟨i, hi⟩ := List.mem_iff_getElem?.1 hk; exact (hp i k hi).1⟩
    refine ⟨by rw [RevL.flat_len (enc := askC) (s := 3) (fun _ _ => rfl)], ?_⟩
    rw [hxs]
    by_cases h0 : len = 0
    · subst h0; exact .inl ⟨rfl, _, _, rfl, h2⟩
    · obtain ⟨k, -, h5⟩ := h4 0 (by omega)
      have h6 := h5 0 (.int .i64 k.ask) rfl
      have hs : a.spot = none := by
        have := World.cell?_spot h6
        rwa [show (a.add (0 * 3)).add 0 = a from by rw [Nat.zero_mul, show a.add 0 = a from if_pos rfl]; exact if_pos rfl] at this
      obtain ⟨b, off, spot⟩ := a
      simp only at hs
      subst hs
      refine .inr ⟨b, off, cap, rfl, h1, h2, ?_⟩
      refine RevL.rangeAt_flat (enc := askC) (s := 3) (fun _ _ => rfl) fun k d hk j u hj => ?_
      have h7 := (hp k d hk).2 j u hj
      rwa [add_lit, add_lit] at h7
end
set_option maxRecDepth 100000 in
theorem turns_off (W : World) (v : Value) (hs : List Value) (ls : List (List Nat)) (oA : Option Addr) (ol oc : Nat) (hG : Glob W) (h : RowsAt W v hs ls) (hf : few ls = false ∨ 20 < ol) :
    Calls Tryd.prog 7 #[v, .slice oA ol oc] W fun e w' => e = .returned (.bool true) ∧ Below W.heap.size W w' := by
  obtain ⟨A, c, rfl, hlc, hcm⟩ := h.sees.form
  have hF := few_any W _ hs ls h
  have HW := Lib.hid (fun (w : World) (hw : Below W.heap.size W w) => awake_any w (hG.new hw))
  clear hG
  by_cases hb : few ls = true
  · rw [hb] at hF
    have h2 : (20 : Int) < (ol : Int) := by rcases hf with hf | hf; rw [hf] at hb; cases hb; omega
    have HF := Lib.hid hF
    clear hF hb hf h
    go_enter Tryd.func7, Tryd.ntmps7
    go_wp2_with (first | (go_at_call 10; (with_reducible refine Calls.mono HF.out ?_); rintro e w1 ⟨rfl, hb1⟩; have HB1 := Lib.hid hb1; clear hb1) | (go_at_call 11; (with_reducible refine Calls.mono (HW.out _ HB1.out) ?_); rintro e w5 ⟨rfl, hb5⟩))
    go_ret
    exact ⟨rfl, below_chain HB1.out hb5⟩
  · rw [show few ls = false by simpa using hb] at hF
    have HF := Lib.hid hF
    clear hF hb hf h
    go_enter Tryd.func7, Tryd.ntmps7
    go_wp2_with (first | (go_at_call 10; (with_reducible refine Calls.mono HF.out ?_); rintro e w1 ⟨rfl, hb1⟩; have HB1 := Lib.hid hb1; clear hb1) | (go_at_call 11; (with_reducible refine Calls.mono (HW.out _ HB1.out) ?_); rintro e w5 ⟨rfl, hb5⟩))
    go_ret
    exact ⟨rfl, below_chain HB1.out hb5⟩
theorem turns_law (W : World) (v ov : Value) (hs : List Value) (ls : List (List Nat)) (xs : List Ask) (hG : Glob W) (h : RowsAt W v hs ls) (hx : AsksAt W ov xs) :
    Calls Tryd.prog 7 #[v, ov] W fun e w' => e = .returned (.bool true) ∧ Below W.heap.size W w' := by
  by_cases ho : few ls = false ∨ 20 < xs.length
  · obtain ⟨oA, oc, rfl, -, -⟩ := hx.sees.form
    exact turns_off W v hs ls oA xs.length oc hG h ho
  · have h1 : few ls = true := by cases hf : few ls with | true => rfl | false => exact absurd (.inl hf) ho
    exact turns_some W v ov hs ls xs hG h h1 hx (by omega)
end Go.Proofs.YtplcjgpmainbnaaDoor.MkW
