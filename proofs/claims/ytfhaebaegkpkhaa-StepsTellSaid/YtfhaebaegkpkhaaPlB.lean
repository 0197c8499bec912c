/- steps.ones; slices.Grow and Concat of steps. -/
import Derived.Test.YtfhaebaegkpkhaaPlA
set_option linter.unusedVariables false
set_option linter.unusedSimpArgs false
namespace Go.Proofs.Ytfhaebaegkpkhaa.Pln
open Go.RowKit OwnS Byt Cfg Stp
attribute [local go_sem ↓] Kit.execOp_call_slot
attribute [local go_sem] Kit.callSlot_func
theorem onesL_take (s : Stp) (ks : List Int) (i : Nat) (k : Int) (h : ks[i]? = some k) : onesL s (ks.take (i + 1)) = onesL s (ks.take i) ++ [{ s with kind := k }] := by
  obtain ⟨hi, rfl⟩ := List.getElem?_eq_some_iff.1 h
  unfold onesL
  rw [List.take_succ_eq_append_getElem hi, List.map_append]
  rfl
set_option maxRecDepth 100000 in
set_option maxHeartbeats 4000000 in
theorem ones_any (W : World) (s : Stp) (v : Value) (ks : List Int) (h : Ints W v ks) (hn : ks.length ≤ 100) : Calls Try.prog 108 #[s.val, v] W (SlcPost W (onesL s ks)) := by
  obtain ⟨k0, pos, layer, head, row⟩ := s
  obtain ⟨vA, vc, rfl, -, -⟩ := Sees.form h
  unfold Stp.val SlcPost
  simp only [onesL_length]
  have H := Lib.hid h
  clear h
  obtain ⟨n, hnn⟩ : ∃ n, n = ks.length := ⟨_, rfl⟩
  rw [← hnn] at hn ⊢
  have HN := Lib.hid hnn
  clear hnn
  go_enter Try.func108, Try.ntmps108
  go_wp2_with fail
  go_loopw [5, 8] (fun v5 v8 wr => ∃ (i : Nat) (A : Option Addr) (c : Nat) (k : Int), i ≤ n ∧ v8 = .int .i64 i ∧ v5 = .slice A i c ∧ Hid (wr.heap[W.heap.size]? = some (.cells [.int .i64 k, .int .i64 pos, .int .i64 layer, .int .i64 head, .int .i64 row].toArray 69 (0, 0)) ∧ Owns wr (W.heap.size + 1) 5 (.slice A i c) i (flatS (onesL ⟨k0, pos, layer, head, row⟩ (ks.take i))) ∧ Below W.heap.size W wr)) (fun _ v8 _ => n - (intOf v8).toNat)
  case atStart => exact ⟨0, none, 0, k0, Nat.zero_le _, rfl, rfl, heap_alloc_new W _, Owns.nil _ _ _, (Below.refl _ _).alloc (Nat.le_refl _) _⟩
  case round =>
    obtain ⟨i, A, c, k, hi, rfl, rfl, hI⟩ := hrel
    have hlt := (Array.getElem?_eq_some_iff.1 hI.out.1).1
    by_cases hin : i < n
    · have c0 : wr.cell? ⟨W.heap.size, 0, none⟩ = some (.int .i64 k) := by rw [cell_of_row _ _ 0 _ _ _ hI.out.1]; rfl
      have c1 : wr.cell? ⟨W.heap.size, 1, none⟩ = some (.int .i64 pos) := by rw [cell_of_row _ _ 1 _ _ _ hI.out.1]; rfl
      have c2 : wr.cell? ⟨W.heap.size, 2, none⟩ = some (.int .i64 layer) := by rw [cell_of_row _ _ 2 _ _ _ hI.out.1]; rfl
      have c3 : wr.cell? ⟨W.heap.size, 3, none⟩ = some (.int .i64 head) := by rw [cell_of_row _ _ 3 _ _ _ hI.out.1]; rfl
      have c4 : wr.cell? ⟨W.heap.size, 4, none⟩ = some (.int .i64 row) := by rw [cell_of_row _ _ 4 _ _ _ hI.out.1]; rfl
      have f0 := frozen_of_row _ _ 0 _ _ hI.out.1
      have hks : i < ks.length := by have := HN.out; omega
      obtain ⟨y, hy⟩ : ∃ y, ks[i]? = some y := ⟨_, List.getElem?_eq_getElem hks⟩
      have hse : Ints wr (.slice vA ks.length vc) ks := H.out.new hI.out.2.2
      obtain ⟨g, o, rfl⟩ := some_addr hse (by omega)
      have ce := Sees.int hse hy
      obtain ⟨w2, hw2⟩ : ∃ w2, w2 = wr.setCell ⟨W.heap.size, 0, none⟩ (.int .i64 y) := ⟨_, rfl⟩
      have hrow : w2.heap[W.heap.size]? = some (.cells [.int .i64 y, .int .i64 pos, .int .i64 layer, .int .i64 head, .int .i64 row].toArray 69 (0, 0)) := by rw [hw2]; exact set_cells hI.out.1 0 _
      have hown2 : Owns w2 (W.heap.size + 1) 5 (.slice A i c) i (flatS (onesL ⟨k0, pos, layer, head, row⟩ (ks.take i))) := by rw [hw2]; exact hI.out.2.1.setCell (a := ⟨W.heap.size, 0, none⟩) (fun b hb => by have := (hI.out.2.1.lt b hb).1; simp; omega) _
      have hb2 : Below W.heap.size W w2 := by rw [hw2]; exact hI.out.2.2.setCell (p := ⟨W.heap.size, 0, none⟩) (Nat.le_refl _) _
      have hsz2 : w2.heap.size = wr.heap.size := by rw [hw2]; simp
      have i1 : (i : Int) < (n : Int) := by omega
      have i2 : (i : Int) ≤ 100 := by omega
      have HA := Lib.hid (And.intro (hown2.alloc (.cells #[.int .i64 y, .int .i64 pos, .int .i64 layer, .int .i64 head, .int .i64 row] 69)) (And.intro (src_step (w := w2.alloc (.cells #[.int .i64 y, .int .i64 pos, .int .i64 layer, .int .i64 head, .int .i64 row] 69)) (g := w2.heap.size) ⟨y, pos, layer, head, row⟩ (rangeAt_whole (cs := Stp.cells ⟨y, pos, layer, head, row⟩) (heap_alloc_new w2 _))) (And.intro hrow (And.intro hb2 (And.intro hsz2 (And.intro hy hlt))))))
      have d0 : w2.cell? ⟨W.heap.size, 0, none⟩ = some (.int .i64 y) := by rw [cell_of_row _ _ 0 _ _ _ hrow]; rfl
      have d1 : w2.cell? ⟨W.heap.size, 1, none⟩ = some (.int .i64 pos) := by rw [cell_of_row _ _ 1 _ _ _ hrow]; rfl
      have d2 : w2.cell? ⟨W.heap.size, 2, none⟩ = some (.int .i64 layer) := by rw [cell_of_row _ _ 2 _ _ _ hrow]; rfl
      have d3 : w2.cell? ⟨W.heap.size, 3, none⟩ = some (.int .i64 head) := by rw [cell_of_row _ _ 3 _ _ _ hrow]; rfl
      have d4 : w2.cell? ⟨W.heap.size, 4, none⟩ = some (.int .i64 row) := by rw [cell_of_row _ _ 4 _ _ _ hrow]; rfl
      have HW2 := Lib.hid hw2
      clear hrow hown2 hb2 hsz2 hy hks hse hw2 hlt
      go_upto_region 5 with fail
      rw [← HW2.out]
      clear c0 c1 c2 c3 c4 f0 ce
      go_wp2_with (at_builtin; refine wpList_append rfl (.tmp 13) (.tmp 15) 154 154 rfl (W.heap.size + 1) 69 _ 5 40 Try.underlying154 infoS _ i (flatS (onesL ⟨k0, pos, layer, head, row⟩ (ks.take i))) rfl (by exact HA.out.1) _ 1 (Stp.cells ⟨y, pos, layer, head, row⟩) rfl (by exact HA.out.2.1) (by unfold maxLen; omega) (by omega) (by have := HA.out.2.2.2.2.1; have := HA.out.2.2.2.2.2.2; rw [World.size_alloc]; omega) ?_; intro A5 c5 w5 hown hg hbl; have hlt2 : W.heap.size < w2.heap.size := (by have := HA.out.2.2.2.2.1; have := HA.out.2.2.2.2.2.2; omega); have hk := (hg.block W.heap.size (by rw [World.size_alloc]; omega) (fun e => by have := (HA.out.1.lt _ e.symm).1; omega)).trans ((Below.heap_alloc _ _ _ hlt2).trans HA.out.2.2.1); have hb5 := (HA.out.2.2.2.1.alloc HA.out.2.2.2.1.size _).grown hg (by simp; omega) (fun k e => by have := (HA.out.1.lt k e).1; omega); have H5 := Lib.hid (And.intro hk (And.intro hown hb5)); clear hk hown hg hbl hb5 d0 d1 d2 d3 d4 hlt2)
      go_roundw
      case rel =>
        refine ⟨i + 1, A5, c5, y, by omega, by go_num, rfl, H5.out.1, ?_, H5.out.2.2⟩
        rw [onesL_take _ _ _ _ HA.out.2.2.2.2.2.1, flatS_append]
        have h7 := H5.out.2.1
        simpa [flatS] using h7
      case measure => simp [intOf]; omega
    · obtain rfl : n = i := by omega
      go_wp2_with fail
      go_ret
      have h7 := hI.out.2.1
      rw [HN.out, List.take_length, ← HN.out] at h7
      exact ⟨A, c, rfl, h7.mono (by omega), hI.out.2.2⟩
theorem own_first0 {w : World} {base size : Nat} {A : Option Addr} {n c : Nat} {xs : List Value} (h : Owns w base size (.slice A n c) n xs) : Owns w base size (.slice A 0 c) 0 [] := by
  refine ⟨by simp, ?_⟩
  rcases h.2 with ⟨h0, h1⟩ | ⟨g, o, cap, h0, h1, h2, h3, h4, h5, h6⟩
  · injection h0 with e1 e2 e3
    subst e1 e3
    exact .inl ⟨rfl, rfl⟩
  · injection h0 with e1 e2 e3
    subst e1 e3
    exact .inr ⟨g, o, c, rfl, h1, h2, Nat.zero_le _, h4, (fun j u hj => by simp at hj), h6⟩
set_option maxRecDepth 100000 in
theorem grow_any (W : World) (n : Nat) (hn : n ≤ 1000000000) : Calls Try.prog 124 #[.slice none 0 0, .int .i64 (n : Int)] W fun e w' => ∃ A c, e = .returned (.slice A 0 c) ∧ Owns w' W.heap.size 5 (.slice A 0 c) 0 [] ∧ Below W.heap.size W w' := by
  by_cases h0 : n = 0
  · subst h0
    go_enter Try.func124, Try.ntmps124
    go_wp2_with fail
    go_ret
    exact ⟨none, 0, rfl, Owns.nil _ _ _, Below.refl _ _⟩
  · have h1 : (0 : Int) < (n : Int) := by omega
    go_enter Try.func124, Try.ntmps124
    go_wp2_with (at_builtin; refine wpList_append_zeros rfl (.tmp 20) (.tmp 21) 154 3 rfl W.heap.size 69 .i64 _ 5 40 Try.underlying154 Try.underlying3 infoS _ 0 [] rfl (by exact Owns.nil _ _ _) n rfl (by unfold maxLen; omega) (by omega) (Nat.le_refl _) ?_; intro A c w1 hown hg hbl; have HA := Lib.hid (And.intro hown hg); clear hown hg hbl)
    go_ret
    refine ⟨A, c, rfl, own_first0 (by simpa using HA.out.1), (Below.refl _ _).grown HA.out.2 (Nat.le_refl _) (fun k e => by cases e)⟩
/-- Lists of steps. -/
structure StsAt (w : World) (v : Value) (hs : List Value) (ls : List (List Stp)) : Prop where
  sees : Sees w 1 v ls.length hs
  row : ∀ (i : Nat) (l : List Stp), ls[i]? = some l → ∃ h, hs[i]? = some h ∧ Sees w 5 h l.length (flatS l)
theorem StsAt.new {w w' : World} {v : Value} {hs : List Value} {ls : List (List Stp)} (h : StsAt w v hs ls) (hb : Below w.heap.size w w') : StsAt w' v hs ls :=
  ⟨h.sees.new hb, fun i l hl => by obtain ⟨x, h1, h2⟩ := h.row i l hl; exact ⟨x, h1, h2.new hb⟩⟩
theorem StsAt.cell {w : World} {v : Value} {hs : List Value} {ls : List (List Stp)} (h : StsAt w v hs ls) {i : Nat} (hi : i < ls.length) : ∃ l g o cap A c, ls[i]? = some l ∧ v = .slice (some ⟨g, o, none⟩) ls.length cap ∧ w.cell? ⟨g, o + i, none⟩ = some (.slice A l.length c) ∧ Sees w 5 (.slice A l.length c) l.length (flatS l) := by
  obtain ⟨g, o, cap, rfl, -, -, h3⟩ := h.sees.holds (by omega)
  obtain ⟨x, h4, h5⟩ := h.row i _ (List.getElem?_eq_getElem hi)
  obtain ⟨A, c, rfl, -, -⟩ := h5.form
  exact ⟨ls[i], g, o, cap, A, c, List.getElem?_eq_getElem hi, rfl, h3 i _ h4, h5⟩
def lens (ls : List (List Stp)) : Nat := (ls.map List.length).sum
theorem lens_take {ls : List (List Stp)} {i : Nat} {l : List Stp} (h : ls[i]? = some l) : lens (ls.take (i + 1)) = lens (ls.take i) + l.length := by
  obtain ⟨hi, rfl⟩ := List.getElem?_eq_some_iff.1 h
  unfold lens
  rw [List.take_succ_eq_append_getElem hi, List.map_append, List.sum_append]
  simp
theorem lens_flat (ls : List (List Stp)) : lens ls = ls.flatten.length := by unfold lens; rw [List.length_flatten]
theorem lens_le (ls : List (List Stp)) (i : Nat) : lens (ls.take i) ≤ lens ls := by
  conv => rhs; rw [← List.take_append_drop i ls]
  unfold lens
  rw [List.map_append, List.sum_append]
  omega
theorem flat_take {ls : List (List Stp)} {i : Nat} {l : List Stp} (h : ls[i]? = some l) : (ls.take (i + 1)).flatten = (ls.take i).flatten ++ l := by
  obtain ⟨hi, rfl⟩ := List.getElem?_eq_some_iff.1 h
  rw [List.take_succ_eq_append_getElem hi, List.flatten_append]
  simp
theorem flatS_one (l : List Stp) : ∀ u ∈ flatS l, u.oneCell' = true := fun u hu => by
  unfold flatS at hu
  obtain ⟨s, -, hs⟩ := List.mem_flatMap.1 hu
  exact cells_one s u hs
set_option maxRecDepth 100000 in
set_option maxHeartbeats 1000000 in
theorem concat_any (W : World) (v : Value) (hs : List Value) (ls : List (List Stp)) (h : StsAt W v hs ls) (hn : ls.length ≤ 1000000) (hl : lens ls ≤ 10000000) : Calls Try.prog 110 #[v] W (SlcPost W ls.flatten) := by
  obtain ⟨A, c, rfl, -, -⟩ := h.sees.form
  have H := Lib.hid h
  clear h
  go_enter Try.func110, Try.ntmps110
  go_wp2_with fail
  go_loop [3, 11] (fun vs vi => ∃ i : Nat, i ≤ ls.length ∧ vi = .int .i64 i ∧ vs = .int .i64 (lens (ls.take i) : Int)) (fun _ vi => ls.length - (intOf vi).toNat)
  case atStart => exact ⟨0, Nat.zero_le _, rfl, rfl⟩
  case round =>
    obtain ⟨i, hi, rfl, rfl⟩ := hrel
    by_cases hlt : i < ls.length
    · obtain ⟨l, g, o, cap, A', c', hl', hv, hc, -⟩ := H.out.cell hlt
      injection hv with e1 e2 e3
      subst e1 e3
      clear e2
      have hle2 := lens_le ls (i + 1)
      rw [lens_take hl'] at hle2
      have hp : (lens (ls.take i) : Int) + (l.length : Int) ≤ 100000000 := by omega
      have hp0 : (0 : Int) ≤ (lens (ls.take i) : Int) := by omega
      have HS := Lib.hid hl'
      clear hl' hle2
      go_wp2_with fail
      go_round
      case rel => exact ⟨i + 1, by omega, by go_num, by rw [lens_take HS.out]; go_num⟩
      case measure => simp [intOf]; omega
    · obtain rfl : i = ls.length := by omega
      rw [List.take_length]
      have HG := Lib.hid (grow_any W (lens ls) (by omega))
      go_wp2_with (go_at_call 124; (with_reducible refine Calls.mono HG.out ?_); rintro e w1 ⟨A1, c1, rfl, hown, hb⟩; have H1 := Lib.hid (And.intro hown hb); clear hown hb)
      go_loopw [6, 27] (fun vo vi wr => ∃ (i : Nat) (A2 : Option Addr) (c2 : Nat), i ≤ ls.length ∧ vi = .int .i64 i ∧ vo = .slice A2 (lens (ls.take i)) c2 ∧ Hid (Owns wr W.heap.size 5 (.slice A2 (lens (ls.take i)) c2) (lens (ls.take i)) (flatS (ls.take i).flatten) ∧ Below W.heap.size W wr)) (fun _ vi _ => ls.length - (intOf vi).toNat)
      case atStart => exact ⟨0, A1, c1, Nat.zero_le _, rfl, rfl, H1⟩
      case round =>
        obtain ⟨i, A2, c2, hi, rfl, rfl, hI⟩ := hrel
        by_cases hlt : i < ls.length
        · obtain ⟨l, g, o, cap, A', c', hl', hv, hc, hse⟩ := (H.out.new hI.out.2).cell hlt
          injection hv with e1 e2 e3
          subst e1 e3
          clear e2
          have hle2 := lens_le ls (i + 1)
          rw [lens_take hl'] at hle2
          have HS := Lib.hid (And.intro hl' hse)
          clear hl' hse
          go_wp2_with (at_builtin; refine wpList_append rfl (.tmp 31) (.tmp 32) 154 154 rfl W.heap.size 69 _ 5 40 Try.underlying154 infoS _ (lens (ls.take i)) (flatS (ls.take i).flatten) rfl (by exact hI.out.1) _ l.length (flatS l) rfl (by exact src_of_sees _ Try.underlying154 HS.out.2 (flatS_one l)) (by unfold maxLen; omega) (by omega) (by exact hI.out.2.size) ?_; intro A3 c3 w3 hown3 hg3 hbl3; have HA := Lib.hid (And.intro hown3 hg3); clear hown3 hg3 hbl3)
          go_roundw
          case rel =>
            refine ⟨i + 1, A3, c3, by omega, by go_num, by rw [lens_take HS.out.1], ?_⟩
            rw [lens_take HS.out.1, flat_take HS.out.1, flatS_append]
            exact ⟨HA.out.1, hI.out.2.grown HA.out.2 hI.out.2.size (fun k e => (hI.out.1.lt k e).1)⟩
          case measure => simp [intOf]; omega
        · obtain rfl : i = ls.length := by omega
          rw [List.take_length] at hI ⊢
          go_wp2_with fail
          go_ret
          refine ⟨A2, c2, ?_, ?_, hI.out.2⟩
          · rw [← lens_flat]; rfl
          · rw [← lens_flat]; exact hI.out.1
end Go.Proofs.Ytfhaebaegkpkhaa.Pln
