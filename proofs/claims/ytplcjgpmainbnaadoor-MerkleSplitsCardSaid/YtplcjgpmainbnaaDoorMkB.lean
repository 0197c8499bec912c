/- slices.Grow, slices.Concat of bytes. -/
import Derived.Test.YtplcjgpmainbnaaDoorMkA
set_option linter.unusedVariables false
set_option linter.unusedSimpArgs false
namespace Go.Proofs.YtplcjgpmainbnaaDoor.MkW
open Go.RowKit OwnS ShaW
attribute [local go_sem ↓] Kit.execOp_call_slot
attribute [local go_sem] Kit.callSlot_func
theorem own_first0 {w : World} {base size n c : Nat} {A : Option Addr} {xs : List Value} (h : Owns w base size (.slice A n c) n xs) : Owns w base size (.slice A 0 c) 0 [] := by
  refine ⟨by simp, ?_⟩
  rcases h.2 with ⟨h0, h1⟩ | ⟨g, o, cap, h0, h1, h2, h3, h4, h5, h6⟩
  · injection h0 with e1 e2 e3
    subst e1 e3
    exact .inl ⟨rfl, rfl⟩
  · injection h0 with e1 e2 e3
    subst e1 e3
    exact .inr ⟨g, o, c, rfl, h1, h2, Nat.zero_le _, h4, (fun j u hj => by simp at hj), h6⟩
def GrowPost (W : World) (e : Ending) (w' : World) : Prop := ∃ A c, e = .returned (.slice A 0 c) ∧ Owns w' W.heap.size 1 (.slice A 0 c) 0 [] ∧ Below W.heap.size W w'
set_option maxRecDepth 100000 in
theorem grow_bytes (W : World) (n : Nat) (hn : n ≤ 1000000000) : Calls Tryd.prog 54 #[.slice none 0 0, .int .i64 (n : Int)] W (GrowPost W) := by
  by_cases h0 : n = 0
  · subst h0
    go_enter Tryd.func54, Tryd.ntmps54
    go_wp2_with fail
    go_ret
    exact ⟨none, 0, rfl, Owns.nil _ _ _, Below.refl _ _⟩
  · have h1 : (0 : Int) < (n : Int) := by omega
    go_enter Tryd.func54, Tryd.ntmps54
    go_wp2_with (at_builtin; refine wpList_append_zeros rfl (.tmp 20) (.tmp 21) 28 3 rfl W.heap.size 5 .i64 (.int .u8 0) 1 1 Tryd.underlying28 Tryd.underlying3 infoB _ 0 [] rfl (by exact Owns.nil _ _ _) n rfl (by unfold maxLen; omega) (by omega) (Nat.le_refl _) ?_; intro A c w1 hown hg hbl; have HA := Lib.hid (And.intro hown hg); clear hown hg hbl)
    go_ret
    refine ⟨A, c, rfl, own_first0 (by simpa using HA.out.1), (Below.refl _ _).grown HA.out.2 (Nat.le_refl _) (fun k e => by cases e)⟩
/-- Rows of bytes. -/
structure RowsAt (w : World) (v : Value) (hs : List Value) (ls : List (List Nat)) : Prop where
  sees : Sees w 1 v ls.length hs
  row : ∀ (i : Nat) (l : List Nat), ls[i]? = some l → ∃ h, hs[i]? = some h ∧ Sees w 1 h l.length (bytesV l)
  byte : ∀ l ∈ ls, ∀ x ∈ l, x < 256
theorem RowsAt.new {w w' : World} {v : Value} {hs : List Value} {ls : List (List Nat)} (h : RowsAt w v hs ls) (hb : Below w.heap.size w w') : RowsAt w' v hs ls :=
  ⟨h.sees.new hb, fun i l hl => by obtain ⟨x, h1, h2⟩ := h.row i l hl; exact ⟨x, h1, h2.new hb⟩, h.byte⟩
/-- The i-th row's header, as a walk meets it. -/
theorem RowsAt.cell {w : World} {v : Value} {hs : List Value} {ls : List (List Nat)} (h : RowsAt w v hs ls) {i : Nat} (hi : i < ls.length) : ∃ l g o cap A c, ls[i]? = some l ∧ v = .slice (some ⟨g, o, none⟩) ls.length cap ∧ w.cell? ⟨g, o + i, none⟩ = some (.slice A l.length c) ∧ Sees w 1 (.slice A l.length c) l.length (bytesV l) := by
  obtain ⟨g, o, cap, rfl, -, -, h3⟩ := h.sees.holds (by omega)
  obtain ⟨x, h4, h5⟩ := h.row i _ (List.getElem?_eq_getElem hi)
  obtain ⟨A, c, rfl, -, -⟩ := h5.form
  exact ⟨ls[i], g, o, cap, A, c, List.getElem?_eq_getElem hi, rfl, h3 i _ h4, h5⟩
def lens (ls : List (List Nat)) : Nat := (ls.map List.length).sum
theorem lens_take {ls : List (List Nat)} {i : Nat} {l : List Nat} (h : ls[i]? = some l) : lens (ls.take (i + 1)) = lens (ls.take i) + l.length := by
  obtain ⟨hi, rfl⟩ := List.getElem?_eq_some_iff.1 h
  unfold lens
  rw [List.take_succ_eq_append_getElem hi, List.map_append, List.sum_append]
  simp
theorem lens_flat (ls : List (List Nat)) : lens ls = ls.flatten.length := by unfold lens; rw [List.length_flatten]
theorem lens_le (ls : List (List Nat)) (i : Nat) : lens (ls.take i) ≤ lens ls := by
  conv => rhs; rw [← List.take_append_drop i ls]
  unfold lens
  rw [List.map_append, List.sum_append]
  omega
theorem flat_take {ls : List (List Nat)} {i : Nat} {l : List Nat} (h : ls[i]? = some l) : (ls.take (i + 1)).flatten = (ls.take i).flatten ++ l := by
  obtain ⟨hi, rfl⟩ := List.getElem?_eq_some_iff.1 h
  rw [List.take_succ_eq_append_getElem hi, List.flatten_append]
  simp
def ConcatPost (W : World) (b : List Nat) (e : Ending) (w' : World) : Prop := ∃ A c, e = .returned (.slice A b.length c) ∧ Sees w' 1 (.slice A b.length c) b.length (bytesV b) ∧ Below W.heap.size W w'
set_option maxRecDepth 100000 in
set_option maxHeartbeats 1000000 in
theorem concat_bytes (W : World) (v : Value) (hs : List Value) (ls : List (List Nat)) (h : RowsAt W v hs ls) (hn : ls.length ≤ 1000000) (hl : lens ls ≤ 100000000) : Calls Tryd.prog 38 #[v] W (ConcatPost W ls.flatten) := by
  obtain ⟨A, c, rfl, -, -⟩ := h.sees.form
  have H := Lib.hid h
  clear h
  go_enter Tryd.func38, Tryd.ntmps38
  go_wp2_with fail
  go_loop [3, 11] (fun vs vi => ∃ i : Nat, i ≤ ls.length ∧ vi = .int .i64 i ∧ vs = .int .i64 (lens (ls.take i) : Int)) (fun _ vi => ls.length - (intOf vi).toNat)
  case atStart => exact ⟨0, Nat.zero_le _, rfl, rfl⟩
  case round =>
    obtain ⟨i, hi, rfl, rfl⟩ := hrel
    by_cases hlt : i < ls.length
    · obtain ⟨l, g, o, cap, A', c', hl', hv, hc, -⟩ := H.out.cell hlt
      injection hv with e1 e2 e3
      subst e1 e3
      clear e2
      have hle2 := lens_le ls (i + 1)
      rw [lens_take hl'] at hle2
      have hp : (lens (ls.take i) : Int) + (l.length : Int) ≤ 100000000 := by omega
      have hp0 : (0 : Int) ≤ (lens (ls.take i) : Int) := by omega
      have HS := Lib.hid hl'
      clear hl' hle2
      go_wp2_with fail
      go_round
      case rel => exact ⟨i + 1, by omega, by go_num, by rw [lens_take HS.out]; go_num⟩
      case measure => simp [intOf]; omega
    · obtain rfl : i = ls.length := by omega
      rw [List.take_length]
      have HG := Lib.hid (grow_bytes W (lens ls) (by omega))
      go_wp2_with (go_at_call 54; (with_reducible refine Calls.mono HG.out ?_); rintro e w1 ⟨A1, c1, rfl, hown, hb⟩; have H1 := Lib.hid (And.intro hown hb); clear hown hb)
      go_loopw [6, 27] (fun vo vi wr => ∃ (i : Nat) (A2 : Option Addr) (c2 : Nat), i ≤ ls.length ∧ vi = .int .i64 i ∧ vo = .slice A2 (lens (ls.take i)) c2 ∧ Hid (Owns wr W.heap.size 1 (.slice A2 (lens (ls.take i)) c2) (lens (ls.take i)) (bytesV (ls.take i).flatten) ∧ Below W.heap.size W wr)) (fun _ vi _ => ls.length - (intOf vi).toNat)
      case atStart => exact ⟨0, A1, c1, Nat.zero_le _, rfl, rfl, H1⟩
      case round =>
        obtain ⟨i, A2, c2, hi, rfl, rfl, hI⟩ := hrel
        by_cases hlt : i < ls.length
        · obtain ⟨l, g, o, cap, A', c', hl', hv, hc, hse⟩ := (H.out.new hI.out.2).cell hlt
          injection hv with e1 e2 e3
          subst e1 e3
          clear e2
          have hle2 := lens_le ls (i + 1)
          rw [lens_take hl'] at hle2
          have HS := Lib.hid (And.intro hl' hse)
          clear hl' hse
          go_wp2_with (at_builtin; refine wpList_append rfl (.tmp 31) (.tmp 32) 28 28 rfl W.heap.size 5 _ 1 1 Tryd.underlying28 infoB _ (lens (ls.take i)) (bytesV (ls.take i).flatten) rfl (by exact hI.out.1) _ l.length (bytesV l) rfl (by exact src_of_sees _ Tryd.underlying28 HS.out.2 (bytesV_one l)) (by unfold maxLen; omega) (by omega) (by exact hI.out.2.size) ?_; intro A3 c3 w3 hown3 hg3 hbl3; have HA := Lib.hid (And.intro hown3 hg3); clear hown3 hg3 hbl3)
          go_roundw
          case rel =>
            refine ⟨i + 1, A3, c3, by omega, by go_num, by rw [lens_take HS.out.1], ?_⟩
            rw [lens_take HS.out.1, flat_take HS.out.1, bytesV_append]
            exact ⟨HA.out.1, hI.out.2.grown HA.out.2 hI.out.2.size (fun k e => (hI.out.1.lt k e).1)⟩
          case measure => simp [intOf]; omega
        · obtain rfl : i = ls.length := by omega
          rw [List.take_length] at hI ⊢
          go_wp2_with fail
          go_ret
          refine ⟨A2, c2, ?_, ?_, hI.out.2⟩
          · rw [← lens_flat]; rfl
          · rw [← lens_flat]; exact hI.out.1.sees
end Go.Proofs.YtplcjgpmainbnaaDoor.MkW
