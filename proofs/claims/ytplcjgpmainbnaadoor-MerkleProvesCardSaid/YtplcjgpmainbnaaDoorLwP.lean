/- MerkleProves' walk (printed by genproves.py). -/
import Derived.Test.YtplcjgpmainbnaaDoorRmD
set_option linter.unusedVariables false
set_option linter.unusedSimpArgs false
namespace Go.Proofs.YtplcjgpmainbnaaDoor.RmW
open Go.RowKit OwnS ShaW MkW RsW QTail
attribute [local go_sem ↓] Kit.execOp_call_slot
attribute [local go_sem] Kit.callSlot_func
structure ProvesIn (W : World) (A : Option Addr) (c : Nat) (hs : List Value) (ls : List (List Nat)) (bA : Option Addr) (bc : Nat) (pA : Option Addr) (pc : Nat) (b : List Nat) (xs : List (List Nat)) : Prop where
  glob : Glob W
  rows : RowsAt W (.slice A ls.length c) hs ls
  few : few ls = true
  bytes : Sees W 1 (.slice bA b.length bc) b.length (bytesV b)
  byte : ∀ x ∈ b, x < 256
  blen : b.length ≤ 100
  digs : DigsAt W (.slice pA xs.length pc) xs
  plen : xs.length ≤ 70
abbrev wayCells (N I : Int) (bv pv : Value) : Array Value := #[.int .i64 N, .int .i64 I, bv, pv]
theorem way_world (W : World) (N I : Int) (bv pv : Value) : ∃ W0, W0 = W.alloc (.cells (wayCells N I bv pv) 40) ∧ Below W.heap.size W W0 ∧
    ∀ w, Below W0.heap.size W0 w → w.cell? ⟨W.heap.size, 0, none⟩ = some (.int .i64 N) ∧ w.cell? ⟨W.heap.size, 1, none⟩ = some (.int .i64 I) ∧ w.cell? ⟨W.heap.size, 2, none⟩ = some bv ∧ w.cell? ⟨W.heap.size, 3, none⟩ = some pv := by
  have hx0 := heap_alloc_new W (.cells (wayCells N I bv pv) 40)
  refine ⟨_, rfl, (Below.refl _ _).alloc (Nat.le_refl _) _, fun w hw => ?_⟩
  have k6 := (hw.block _ (Array.getElem?_eq_some_iff.1 hx0).1).trans hx0
  exact ⟨by rw [cell_of_row _ _ 0 _ _ _ k6]; rfl, by rw [cell_of_row _ _ 1 _ _ _ k6]; rfl, by rw [cell_of_row _ _ 2 _ _ _ k6]; rfl, by rw [cell_of_row _ _ 3 _ _ _ k6]; rfl⟩
theorem parts_deep (n i : Nat) : (partsOf n i).length = Mk.deep n n i := by
  have := congrArg List.length (Mk.parts_ways n 0 n i (by omega) (by omega) (by omega))
  rw [List.length_map, Nat.sub_zero, Nat.sub_zero] at this
  rw [Mk.deep_ways]
  exact this
theorem rfold_foldN (n i : Nat) (x : List Nat) (ps : List (List Nat)) (h : (partsOf n i).length = ps.length) : rfold n n i x ps = foldN n i ps x := by
  have hw : (partsOf n i).map (·.2.2) = Mk.ways n n i := by
    have := Mk.parts_ways n 0 n i (by omega) (by omega) (by omega)
    rwa [Nat.sub_zero, Nat.sub_zero] at this
  unfold rfold foldN sidesOf
  rw [hw]
  exact Mk.refFold_up _ _ _ _ _ _ _ (by rw [← hw, List.length_map, h])
set_option maxRecDepth 100000 in
set_option maxHeartbeats 4000000 in
theorem proves_lo_lo (W : World) (A : Option Addr) (c : Nat) (hs : List Value) (ls : List (List Nat)) (bA : Option Addr) (bc : Nat) (pA : Option Addr) (pc : Nat) (b : List Nat) (xs : List (List Nat)) (P : ProvesIn W A c hs ls bA bc pA pc b xs) (i : Int) (N I : Int) (hi : i < 0) (hI : I < 0) :
    Calls Tryd.prog 5 #[.slice A ls.length c, .int .i64 i, .agg #[.int .i64 N, .int .i64 I, .slice bA b.length bc, .slice pA xs.length pc]] W fun e w' => e = .returned (.bool true) ∧ Below W.heap.size W w' := by
  obtain ⟨hl20, hl100⟩ := few_of P.few
  have m0 : RowsFew ls := ⟨by omega, fun l hl => by have := hl100 l hl; omega⟩
  obtain ⟨W0, hW0, hb0, cells⟩ := way_world W N I (.slice bA b.length bc) (.slice pA xs.length pc)
  have hF := few_any W0 _ hs ls (P.rows.new hb0)
  rw [P.few] at hF
  have hc0 := cells W0 (Below.refl _ _)
  rw [hW0] at hc0 hF
  obtain ⟨-, -, e2, e3⟩ := hc0
  have hlc := P.rows.sees.form
  obtain ⟨A0, c0, ef, hlc, hcm⟩ := hlc
  injection ef with ef1 ef2 ef3
  subst ef3
  clear ef1 ef2 A0
  have hbl := P.blen
  have hpl := P.plen
  have cP := fun (w : World) (hw : Below W.heap.size W w) => Prove_none w _ hs ls i (P.glob.new hw) (P.rows.new hw) m0.1 m0.2 (by omega)
  have HP := Lib.hid cP
  clear cP
  have H := Lib.hid P
  have H0 := Lib.hid (And.intro hb0 (And.intro cells hW0))
  have HF := Lib.hid hF
  have HW := Lib.hid (fun (w : World) (hw : Below W.heap.size W w) => awake_any w (P.glob.new hw))
  clear hF hb0 cells hW0 m0 P hl100
  have g2 : ¬ (100 : Int) < (b.length : Int) := by omega
  have g3 : ¬ (70 : Int) < (xs.length : Int) := by omega
  go_enter Tryd.func5, Tryd.ntmps5
  go_upto_region 3 with (go_at_call 10; (with_reducible refine Calls.mono HF.out ?_); rintro e w1 ⟨rfl, hb1⟩; rw [← H0.out.2.2] at hb1; have e21 := (H0.out.2.1 _ hb1).2.2.1; have e31 := (H0.out.2.1 _ hb1).2.2.2; have H1 := Lib.hid hb1; clear hb1)
  go_upto_region 9 with (go_at_call 18; (with_reducible refine Calls.mono (HP.out _ (below_chain H0.out.1 H1.out)) ?_); rintro e w2 ⟨rfl, hb2⟩; have HM := Lib.hid (below_chain H1.out hb2); clear hb2)
  clear e2 e3 e21 e31
  have hWX := below_chain H0.out.1 HM.out
  obtain ⟨f0, f1, f2, f3⟩ := H0.out.2.1 _ HM.out
  have cF := fold_none w2 N I (.slice bA b.length bc) (.slice pA xs.length pc) (by omega)
  have HFo := Lib.hid cF
  clear cF hWX
  go_upto_region 10 with (first | (go_at_call 21; (with_reducible refine Calls.mono HFo.out ?_); rintro e w6 ⟨rfl, hb6⟩) | (refine wpList_store_dig rfl (.tmp 9) (.tmp 68) rfl w6.heap.size rfl zeroD rfl rfl zero32 (by exact heap_alloc_new _ _) zero32_length ?_))
  change Code.wp _ _ _ _ ((w6.alloc (.cells zero32.toArray 24)).setRow w6.heap.size (bytesV zeroD).toArray)
  obtain ⟨x6, hx6, hv6, hB6, hs6⟩ := dig_cut w6 zeroD
  rw [← hx6]
  have hX6 := below_chain HM.out (below_chain hb6 hB6)
  obtain ⟨r1, hq1⟩ : ∃ r1, r1 = w6.heap.size := ⟨_, rfl⟩
  rw [← hq1] at hv6 hs6 ⊢
  have HX := Lib.hid (And.intro hv6 (And.intro hX6 (below_chain H0.out.1 hX6)))
  clear hv6 hs6 hb6 hB6 hX6 hx6 hq1 f0 f1 f2 f3
  obtain ⟨f0, f1, f2, f3⟩ := H0.out.2.1 _ HX.out.2.1
  have q4 : ∀ op x y w c d, (eqGuard op 24 x y (digV c) (digV d)).run Tryd.prog w = .ok () w := fun op x y w c d => run_guard_dig op x y w c d
  have qg : ∀ op x y w, (eqGuard op 24 x y (digV zeroD) (.agg #[.int .u8 0, .int .u8 0, .int .u8 0, .int .u8 0, .int .u8 0, .int .u8 0, .int .u8 0, .int .u8 0, .int .u8 0, .int .u8 0, .int .u8 0, .int .u8 0, .int .u8 0, .int .u8 0, .int .u8 0, .int .u8 0, .int .u8 0, .int .u8 0, .int .u8 0, .int .u8 0, .int .u8 0, .int .u8 0, .int .u8 0, .int .u8 0, .int .u8 0, .int .u8 0, .int .u8 0, .int .u8 0, .int .u8 0, .int .u8 0, .int .u8 0, .int .u8 0])).run Tryd.prog w = .ok () w := fun op x y w => run_guard_dig op x y w zeroD zeroD
  have qz : ∀ w, (binOp .eql 24 (digV zeroD) (.agg #[.int .u8 0, .int .u8 0, .int .u8 0, .int .u8 0, .int .u8 0, .int .u8 0, .int .u8 0, .int .u8 0, .int .u8 0, .int .u8 0, .int .u8 0, .int .u8 0, .int .u8 0, .int .u8 0, .int .u8 0, .int .u8 0, .int .u8 0, .int .u8 0, .int .u8 0, .int .u8 0, .int .u8 0, .int .u8 0, .int .u8 0, .int .u8 0, .int .u8 0, .int .u8 0, .int .u8 0, .int .u8 0, .int .u8 0, .int .u8 0, .int .u8 0, .int .u8 0])).run Tryd.prog w = .ok (.bool true) w := fun w => by have h := run_eql_dig w zeroD zeroD zero_dig zero_dig; rw [decide_eq_true rfl] at h; exact h
  have HY := HX
  clear f2 f3
  go_wp2_with (first | (refine wpList_load_dig rfl (.tmp 9) rfl r1 0 rfl zeroD (rangeAt_whole HY.out.1) rfl ?_) | (go_at_call 11; (with_reducible refine Calls.mono (HW.out _ HY.out.2.2) ?_); rintro e w9 ⟨rfl, hb9⟩))
  go_ret
  exact ⟨rfl, below_chain HY.out.2.2 hb9⟩
set_option maxRecDepth 100000 in
set_option maxHeartbeats 4000000 in
theorem proves_lo_hi (W : World) (A : Option Addr) (c : Nat) (hs : List Value) (ls : List (List Nat)) (bA : Option Addr) (bc : Nat) (pA : Option Addr) (pc : Nat) (b : List Nat) (xs : List (List Nat)) (P : ProvesIn W A c hs ls bA bc pA pc b xs) (i : Int) (N I : Int) (hi : i < 0) (hI0 : ¬ I < 0) (hI : N ≤ I) :
    Calls Tryd.prog 5 #[.slice A ls.length c, .int .i64 i, .agg #[.int .i64 N, .int .i64 I, .slice bA b.length bc, .slice pA xs.length pc]] W fun e w' => e = .returned (.bool true) ∧ Below W.heap.size W w' := by
  obtain ⟨hl20, hl100⟩ := few_of P.few
  have m0 : RowsFew ls := ⟨by omega, fun l hl => by have := hl100 l hl; omega⟩
  obtain ⟨W0, hW0, hb0, cells⟩ := way_world W N I (.slice bA b.length bc) (.slice pA xs.length pc)
  have hF := few_any W0 _ hs ls (P.rows.new hb0)
  rw [P.few] at hF
  have hc0 := cells W0 (Below.refl _ _)
  rw [hW0] at hc0 hF
  obtain ⟨-, -, e2, e3⟩ := hc0
  have hlc := P.rows.sees.form
  obtain ⟨A0, c0, ef, hlc, hcm⟩ := hlc
  injection ef with ef1 ef2 ef3
  subst ef3
  clear ef1 ef2 A0
  have hbl := P.blen
  have hpl := P.plen
  have cP := fun (w : World) (hw : Below W.heap.size W w) => Prove_none w _ hs ls i (P.glob.new hw) (P.rows.new hw) m0.1 m0.2 (by omega)
  have HP := Lib.hid cP
  clear cP
  have H := Lib.hid P
  have H0 := Lib.hid (And.intro hb0 (And.intro cells hW0))
  have HF := Lib.hid hF
  have HW := Lib.hid (fun (w : World) (hw : Below W.heap.size W w) => awake_any w (P.glob.new hw))
  clear hF hb0 cells hW0 m0 P hl100
  have g2 : ¬ (100 : Int) < (b.length : Int) := by omega
  have g3 : ¬ (70 : Int) < (xs.length : Int) := by omega
  go_enter Tryd.func5, Tryd.ntmps5
  go_upto_region 3 with (go_at_call 10; (with_reducible refine Calls.mono HF.out ?_); rintro e w1 ⟨rfl, hb1⟩; rw [← H0.out.2.2] at hb1; have e21 := (H0.out.2.1 _ hb1).2.2.1; have e31 := (H0.out.2.1 _ hb1).2.2.2; have H1 := Lib.hid hb1; clear hb1)
  go_upto_region 9 with (go_at_call 18; (with_reducible refine Calls.mono (HP.out _ (below_chain H0.out.1 H1.out)) ?_); rintro e w2 ⟨rfl, hb2⟩; have HM := Lib.hid (below_chain H1.out hb2); clear hb2)
  clear e2 e3 e21 e31
  have hWX := below_chain H0.out.1 HM.out
  obtain ⟨f0, f1, f2, f3⟩ := H0.out.2.1 _ HM.out
  have cF := fold_none w2 N I (.slice bA b.length bc) (.slice pA xs.length pc) (by omega)
  have HFo := Lib.hid cF
  clear cF hWX
  go_upto_region 10 with (first | (go_at_call 21; (with_reducible refine Calls.mono HFo.out ?_); rintro e w6 ⟨rfl, hb6⟩) | (refine wpList_store_dig rfl (.tmp 9) (.tmp 68) rfl w6.heap.size rfl zeroD rfl rfl zero32 (by exact heap_alloc_new _ _) zero32_length ?_))
  change Code.wp _ _ _ _ ((w6.alloc (.cells zero32.toArray 24)).setRow w6.heap.size (bytesV zeroD).toArray)
  obtain ⟨x6, hx6, hv6, hB6, hs6⟩ := dig_cut w6 zeroD
  rw [← hx6]
  have hX6 := below_chain HM.out (below_chain hb6 hB6)
  obtain ⟨r1, hq1⟩ : ∃ r1, r1 = w6.heap.size := ⟨_, rfl⟩
  rw [← hq1] at hv6 hs6 ⊢
  have HX := Lib.hid (And.intro hv6 (And.intro hX6 (below_chain H0.out.1 hX6)))
  clear hv6 hs6 hb6 hB6 hX6 hx6 hq1 f0 f1 f2 f3
  obtain ⟨f0, f1, f2, f3⟩ := H0.out.2.1 _ HX.out.2.1
  have q4 : ∀ op x y w c d, (eqGuard op 24 x y (digV c) (digV d)).run Tryd.prog w = .ok () w := fun op x y w c d => run_guard_dig op x y w c d
  have qg : ∀ op x y w, (eqGuard op 24 x y (digV zeroD) (.agg #[.int .u8 0, .int .u8 0, .int .u8 0, .int .u8 0, .int .u8 0, .int .u8 0, .int .u8 0, .int .u8 0, .int .u8 0, .int .u8 0, .int .u8 0, .int .u8 0, .int .u8 0, .int .u8 0, .int .u8 0, .int .u8 0, .int .u8 0, .int .u8 0, .int .u8 0, .int .u8 0, .int .u8 0, .int .u8 0, .int .u8 0, .int .u8 0, .int .u8 0, .int .u8 0, .int .u8 0, .int .u8 0, .int .u8 0, .int .u8 0, .int .u8 0, .int .u8 0])).run Tryd.prog w = .ok () w := fun op x y w => run_guard_dig op x y w zeroD zeroD
  have qz : ∀ w, (binOp .eql 24 (digV zeroD) (.agg #[.int .u8 0, .int .u8 0, .int .u8 0, .int .u8 0, .int .u8 0, .int .u8 0, .int .u8 0, .int .u8 0, .int .u8 0, .int .u8 0, .int .u8 0, .int .u8 0, .int .u8 0, .int .u8 0, .int .u8 0, .int .u8 0, .int .u8 0, .int .u8 0, .int .u8 0, .int .u8 0, .int .u8 0, .int .u8 0, .int .u8 0, .int .u8 0, .int .u8 0, .int .u8 0, .int .u8 0, .int .u8 0, .int .u8 0, .int .u8 0, .int .u8 0, .int .u8 0])).run Tryd.prog w = .ok (.bool true) w := fun w => by have h := run_eql_dig w zeroD zeroD zero_dig zero_dig; rw [decide_eq_true rfl] at h; exact h
  have HY := HX
  clear f2 f3
  go_wp2_with (first | (refine wpList_load_dig rfl (.tmp 9) rfl r1 0 rfl zeroD (rangeAt_whole HY.out.1) rfl ?_) | (go_at_call 11; (with_reducible refine Calls.mono (HW.out _ HY.out.2.2) ?_); rintro e w9 ⟨rfl, hb9⟩))
  go_ret
  exact ⟨rfl, below_chain HY.out.2.2 hb9⟩
set_option maxRecDepth 100000 in
set_option maxHeartbeats 4000000 in
theorem proves_lo_wrong (W : World) (A : Option Addr) (c : Nat) (hs : List Value) (ls : List (List Nat)) (bA : Option Addr) (bc : Nat) (pA : Option Addr) (pc : Nat) (b : List Nat) (xs : List (List Nat)) (P : ProvesIn W A c hs ls bA bc pA pc b xs) (i : Int) (N I : Nat) (hi : i < 0) (hN : N ≤ 9223372036854775807) (hI : I < N) (hd : Mk.deep N N I ≠ xs.length) :
    Calls Tryd.prog 5 #[.slice A ls.length c, .int .i64 i, .agg #[.int .i64 N, .int .i64 I, .slice bA b.length bc, .slice pA xs.length pc]] W fun e w' => e = .returned (.bool true) ∧ Below W.heap.size W w' := by
  obtain ⟨hl20, hl100⟩ := few_of P.few
  have m0 : RowsFew ls := ⟨by omega, fun l hl => by have := hl100 l hl; omega⟩
  obtain ⟨W0, hW0, hb0, cells⟩ := way_world W N I (.slice bA b.length bc) (.slice pA xs.length pc)
  have hF := few_any W0 _ hs ls (P.rows.new hb0)
  rw [P.few] at hF
  have hc0 := cells W0 (Below.refl _ _)
  rw [hW0] at hc0 hF
  obtain ⟨-, -, e2, e3⟩ := hc0
  have hlc := P.rows.sees.form
  obtain ⟨A0, c0, ef, hlc, hcm⟩ := hlc
  injection ef with ef1 ef2 ef3
  subst ef3
  clear ef1 ef2 A0
  have hbl := P.blen
  have hpl := P.plen
  have cP := fun (w : World) (hw : Below W.heap.size W w) => Prove_none w _ hs ls i (P.glob.new hw) (P.rows.new hw) m0.1 m0.2 (by omega)
  have HP := Lib.hid cP
  clear cP
  have H := Lib.hid P
  have H0 := Lib.hid (And.intro hb0 (And.intro cells hW0))
  have HF := Lib.hid hF
  have HW := Lib.hid (fun (w : World) (hw : Below W.heap.size W w) => awake_any w (P.glob.new hw))
  clear hF hb0 cells hW0 m0 P hl100
  have g2 : ¬ (100 : Int) < (b.length : Int) := by omega
  have g3 : ¬ (70 : Int) < (xs.length : Int) := by omega
  go_enter Tryd.func5, Tryd.ntmps5
  go_upto_region 3 with (go_at_call 10; (with_reducible refine Calls.mono HF.out ?_); rintro e w1 ⟨rfl, hb1⟩; rw [← H0.out.2.2] at hb1; have e21 := (H0.out.2.1 _ hb1).2.2.1; have e31 := (H0.out.2.1 _ hb1).2.2.2; have H1 := Lib.hid hb1; clear hb1)
  go_upto_region 9 with (go_at_call 18; (with_reducible refine Calls.mono (HP.out _ (below_chain H0.out.1 H1.out)) ?_); rintro e w2 ⟨rfl, hb2⟩; have HM := Lib.hid (below_chain H1.out hb2); clear hb2)
  clear e2 e3 e21 e31
  have hWX := below_chain H0.out.1 HM.out
  obtain ⟨f0, f1, f2, f3⟩ := H0.out.2.1 _ HM.out
  have cF := fold_wrong w2 N I (.slice bA b.length bc) (.int .i64 0) pA xs.length pc hN hI (by rw [parts_deep]; exact hd)
  have HFo := Lib.hid cF
  clear cF hWX
  go_upto_region 10 with (first | (go_at_call 21; (with_reducible refine Calls.mono HFo.out ?_); rintro e w6 ⟨rfl, hb6⟩) | (refine wpList_store_dig rfl (.tmp 9) (.tmp 68) rfl w6.heap.size rfl zeroD rfl rfl zero32 (by exact heap_alloc_new _ _) zero32_length ?_))
  change Code.wp _ _ _ _ ((w6.alloc (.cells zero32.toArray 24)).setRow w6.heap.size (bytesV zeroD).toArray)
  obtain ⟨x6, hx6, hv6, hB6, hs6⟩ := dig_cut w6 zeroD
  rw [← hx6]
  have hX6 := below_chain HM.out (below_chain hb6 hB6)
  obtain ⟨r1, hq1⟩ : ∃ r1, r1 = w6.heap.size := ⟨_, rfl⟩
  rw [← hq1] at hv6 hs6 ⊢
  have HX := Lib.hid (And.intro hv6 (And.intro hX6 (below_chain H0.out.1 hX6)))
  clear hv6 hs6 hb6 hB6 hX6 hx6 hq1 f0 f1 f2 f3
  obtain ⟨f0, f1, f2, f3⟩ := H0.out.2.1 _ HX.out.2.1
  have q4 : ∀ op x y w c d, (eqGuard op 24 x y (digV c) (digV d)).run Tryd.prog w = .ok () w := fun op x y w c d => run_guard_dig op x y w c d
  have qg : ∀ op x y w, (eqGuard op 24 x y (digV zeroD) (.agg #[.int .u8 0, .int .u8 0, .int .u8 0, .int .u8 0, .int .u8 0, .int .u8 0, .int .u8 0, .int .u8 0, .int .u8 0, .int .u8 0, .int .u8 0, .int .u8 0, .int .u8 0, .int .u8 0, .int .u8 0, .int .u8 0, .int .u8 0, .int .u8 0, .int .u8 0, .int .u8 0, .int .u8 0, .int .u8 0, .int .u8 0, .int .u8 0, .int .u8 0, .int .u8 0, .int .u8 0, .int .u8 0, .int .u8 0, .int .u8 0, .int .u8 0, .int .u8 0])).run Tryd.prog w = .ok () w := fun op x y w => run_guard_dig op x y w zeroD zeroD
  have qz : ∀ w, (binOp .eql 24 (digV zeroD) (.agg #[.int .u8 0, .int .u8 0, .int .u8 0, .int .u8 0, .int .u8 0, .int .u8 0, .int .u8 0, .int .u8 0, .int .u8 0, .int .u8 0, .int .u8 0, .int .u8 0, .int .u8 0, .int .u8 0, .int .u8 0, .int .u8 0, .int .u8 0, .int .u8 0, .int .u8 0, .int .u8 0, .int .u8 0, .int .u8 0, .int .u8 0, .int .u8 0, .int .u8 0, .int .u8 0, .int .u8 0, .int .u8 0, .int .u8 0, .int .u8 0, .int .u8 0, .int .u8 0])).run Tryd.prog w = .ok (.bool true) w := fun w => by have h := run_eql_dig w zeroD zeroD zero_dig zero_dig; rw [decide_eq_true rfl] at h; exact h
  have j0 : ¬ (I : Int) < 0 := by omega
  have j1 : ¬ (N : Int) ≤ (I : Int) := by omega
  have j2 : (I : Int) < (N : Int) := by omega
  obtain ⟨d, hdd⟩ : ∃ d, d = Mk.deep N N I := ⟨_, rfl⟩
  have cE := fun (w : World) => deep_any N w N I (Nat.le_refl _) hN (by omega)
  rw [← hdd] at cE hd
  have HE := Lib.hid cE
  clear cE hdd
  have jd : ¬ (xs.length : Int) = (d : Int) := by omega
  have jd' : ¬ xs.length = d := by omega
  go_upto_region 12 with fail
  refine wp_region_below x6.heap.size (by kernel_rfl) (by kernel_rfl) ?_
  intro J hNI F hF hFi
  have c1 : ∀ j, Calls Tryd.prog 22 #[.int .i64 (N : Int), .int .i64 (I : Int)] (F j) fun e w'' => e = .returned (.int .i64 (d : Int)) ∧ ∃ k, w'' = F k := fun j => (HE.out (F j)).mono fun e w'' ⟨he, hw⟩ => ⟨he, j, hw.symm⟩
  have h0 : ∀ j, (F j).cell? ⟨W.heap.size, 0, none⟩ = some (.int .i64 (N : Int)) := fun j => (H0.out.2.1 _ (below_chain HX.out.2.1 (hF j))).1
  have h1 : ∀ j, (F j).cell? ⟨W.heap.size, 1, none⟩ = some (.int .i64 (I : Int)) := fun j => (H0.out.2.1 _ (below_chain HX.out.2.1 (hF j))).2.1
  have h3 : ∀ j, (F j).cell? ⟨W.heap.size, 3, none⟩ = some (.slice pA xs.length pc) := fun j => (H0.out.2.1 _ (below_chain HX.out.2.1 (hF j))).2.2.2
  have HFF := Lib.hid (And.intro c1 hF)
  clear c1 hF hFi
  repeat (go_big_quiet_step ((go_at_call 22; exact HFF.out.1 _)))
  refine wpQuiet_nil ?_
  rintro x7 ⟨j, hj⟩
  have hb7 : Below x6.heap.size x6 x7 := by rw [hj]; exact HFF.out.2 j
  have HY := Lib.hid (And.intro ((hb7.block r1 (Array.getElem?_eq_some_iff.1 HX.out.1).1).trans HX.out.1) (And.intro (below_chain HX.out.2.1 hb7) (below_chain HX.out.2.2 hb7)))
  clear hj HFF h0 h1 h3 hb7 f0 f1 f2 f3
  go_wp2_with (first | (refine wpList_load_dig rfl (.tmp 9) rfl r1 0 rfl zeroD (rangeAt_whole HY.out.1) rfl ?_) | (go_at_call 11; (with_reducible refine Calls.mono (HW.out _ HY.out.2.2) ?_); rintro e w9 ⟨rfl, hb9⟩))
  go_ret
  exact ⟨rfl, below_chain HY.out.2.2 hb9⟩
set_option maxRecDepth 100000 in
set_option maxHeartbeats 4000000 in
theorem proves_lo_some (W : World) (A : Option Addr) (c : Nat) (hs : List Value) (ls : List (List Nat)) (bA : Option Addr) (bc : Nat) (pA : Option Addr) (pc : Nat) (b : List Nat) (xs : List (List Nat)) (P : ProvesIn W A c hs ls bA bc pA pc b xs) (i : Int) (N I : Nat) (hi : i < 0) (hN : N ≤ 9223372036854775807) (hI : I < N) (hd : Mk.deep N N I = xs.length) :
    Calls Tryd.prog 5 #[.slice A ls.length c, .int .i64 i, .agg #[.int .i64 N, .int .i64 I, .slice bA b.length bc, .slice pA xs.length pc]] W fun e w' => e = .returned (.bool true) ∧ Below W.heap.size W w' := by
  obtain ⟨hl20, hl100⟩ := few_of P.few
  have m0 : RowsFew ls := ⟨by omega, fun l hl => by have := hl100 l hl; omega⟩
  obtain ⟨W0, hW0, hb0, cells⟩ := way_world W N I (.slice bA b.length bc) (.slice pA xs.length pc)
  have hF := few_any W0 _ hs ls (P.rows.new hb0)
  rw [P.few] at hF
  have hc0 := cells W0 (Below.refl _ _)
  rw [hW0] at hc0 hF
  obtain ⟨-, -, e2, e3⟩ := hc0
  have hlc := P.rows.sees.form
  obtain ⟨A0, c0, ef, hlc, hcm⟩ := hlc
  injection ef with ef1 ef2 ef3
  subst ef3
  clear ef1 ef2 A0
  have hbl := P.blen
  have hpl := P.plen
  have cP := fun (w : World) (hw : Below W.heap.size W w) => Prove_none w _ hs ls i (P.glob.new hw) (P.rows.new hw) m0.1 m0.2 (by omega)
  have HP := Lib.hid cP
  clear cP
  have H := Lib.hid P
  have H0 := Lib.hid (And.intro hb0 (And.intro cells hW0))
  have HF := Lib.hid hF
  have HW := Lib.hid (fun (w : World) (hw : Below W.heap.size W w) => awake_any w (P.glob.new hw))
  clear hF hb0 cells hW0 m0 P hl100
  have g2 : ¬ (100 : Int) < (b.length : Int) := by omega
  have g3 : ¬ (70 : Int) < (xs.length : Int) := by omega
  go_enter Tryd.func5, Tryd.ntmps5
  go_upto_region 3 with (go_at_call 10; (with_reducible refine Calls.mono HF.out ?_); rintro e w1 ⟨rfl, hb1⟩; rw [← H0.out.2.2] at hb1; have e21 := (H0.out.2.1 _ hb1).2.2.1; have e31 := (H0.out.2.1 _ hb1).2.2.2; have H1 := Lib.hid hb1; clear hb1)
  go_upto_region 9 with (go_at_call 18; (with_reducible refine Calls.mono (HP.out _ (below_chain H0.out.1 H1.out)) ?_); rintro e w2 ⟨rfl, hb2⟩; have HM := Lib.hid (below_chain H1.out hb2); clear hb2)
  clear e2 e3 e21 e31
  have hWX := below_chain H0.out.1 HM.out
  obtain ⟨f0, f1, f2, f3⟩ := H0.out.2.1 _ HM.out
  have hpd : (partsOf N I).length = xs.length := by rw [parts_deep]; exact hd
  have cF := fold_some w2 N I _ _ b xs hN hI (H.out.glob.new hWX) (H.out.bytes.new hWX) H.out.byte (by omega) (H.out.digs.new hWX) hpd
  have cG := fun (w : World) (hw : Below W.heap.size W w) => rfold_any b _ H.out.byte (by omega) N w _ N I xs (Nat.le_refl _) hN (by omega) (H.out.bytes.new hw) (H.out.digs.new hw) (by rw [← Mk.deep_ways]; exact hd)
  rw [rfold_foldN N I (leafH b) xs hpd] at cG
  obtain ⟨D, hD⟩ : ∃ D, D = foldN N I xs (leafH b) := ⟨_, rfl⟩
  have dD : Dig D := by rw [hD]; exact foldUp_dig _ _ _ (dig_leaf _)
  rw [← hD] at cF cG
  have HG := Lib.hid (And.intro cG dD)
  clear cG dD hD hpd
  have HFo := Lib.hid cF
  clear cF hWX
  go_upto_region 10 with (first | (go_at_call 21; (with_reducible refine Calls.mono HFo.out ?_); rintro e w6 ⟨rfl, hb6⟩) | (refine wpList_store_dig rfl (.tmp 9) (.tmp 68) rfl w6.heap.size rfl D rfl HG.out.2.1 zero32 (by exact heap_alloc_new _ _) zero32_length ?_))
  change Code.wp _ _ _ _ ((w6.alloc (.cells zero32.toArray 24)).setRow w6.heap.size (bytesV D).toArray)
  obtain ⟨x6, hx6, hv6, hB6, hs6⟩ := dig_cut w6 D
  rw [← hx6]
  have hX6 := below_chain HM.out (below_chain hb6 hB6)
  obtain ⟨r1, hq1⟩ : ∃ r1, r1 = w6.heap.size := ⟨_, rfl⟩
  rw [← hq1] at hv6 hs6 ⊢
  have HX := Lib.hid (And.intro hv6 (And.intro hX6 (below_chain H0.out.1 hX6)))
  clear hv6 hs6 hb6 hB6 hX6 hx6 hq1 f0 f1 f2 f3
  obtain ⟨f0, f1, f2, f3⟩ := H0.out.2.1 _ HX.out.2.1
  have q4 : ∀ op x y w c d, (eqGuard op 24 x y (digV c) (digV d)).run Tryd.prog w = .ok () w := fun op x y w c d => run_guard_dig op x y w c d
  have j0 : ¬ (I : Int) < 0 := by omega
  have j1 : ¬ (N : Int) ≤ (I : Int) := by omega
  have j2 : (I : Int) < (N : Int) := by omega
  obtain ⟨d, hdd⟩ : ∃ d, d = Mk.deep N N I := ⟨_, rfl⟩
  have cE := fun (w : World) => deep_any N w N I (Nat.le_refl _) hN (by omega)
  rw [← hdd] at cE hd
  have HE := Lib.hid cE
  clear cE hdd
  subst hd
  go_upto_region 12 with fail
  refine wp_region_below x6.heap.size (by kernel_rfl) (by kernel_rfl) ?_
  intro J hNI F hF hFi
  have c1 : ∀ j, Calls Tryd.prog 22 #[.int .i64 (N : Int), .int .i64 (I : Int)] (F j) fun e w'' => e = .returned (.int .i64 (xs.length : Int)) ∧ ∃ k, w'' = F k := fun j => (HE.out (F j)).mono fun e w'' ⟨he, hw⟩ => ⟨he, j, hw.symm⟩
  have h0 : ∀ j, (F j).cell? ⟨W.heap.size, 0, none⟩ = some (.int .i64 (N : Int)) := fun j => (H0.out.2.1 _ (below_chain HX.out.2.1 (hF j))).1
  have h1 : ∀ j, (F j).cell? ⟨W.heap.size, 1, none⟩ = some (.int .i64 (I : Int)) := fun j => (H0.out.2.1 _ (below_chain HX.out.2.1 (hF j))).2.1
  have h3 : ∀ j, (F j).cell? ⟨W.heap.size, 3, none⟩ = some (.slice pA xs.length pc) := fun j => (H0.out.2.1 _ (below_chain HX.out.2.1 (hF j))).2.2.2
  have HFF := Lib.hid (And.intro c1 hF)
  clear c1 hF hFi
  repeat (go_big_quiet_step ((go_at_call 22; exact HFF.out.1 _)))
  refine wpQuiet_nil ?_
  rintro x7 ⟨j, hj⟩
  have hb7 : Below x6.heap.size x6 x7 := by rw [hj]; exact HFF.out.2 j
  have HY := Lib.hid (And.intro ((hb7.block r1 (Array.getElem?_eq_some_iff.1 HX.out.1).1).trans HX.out.1) (And.intro (below_chain HX.out.2.1 hb7) (below_chain HX.out.2.2 hb7)))
  clear hj HFF h0 h1 h3 hb7 f0 f1 f2 f3
  have q1 : ∀ w, (binOp .eql 24 (digV D) (digV D)).run Tryd.prog w = .ok (.bool true) w := fun w => by rw [run_eql_dig w D D HG.out.2 HG.out.2, decide_eq_true rfl]
  go_upto_region 14 with fail
  refine wp_region_below x7.heap.size (by kernel_rfl) (by kernel_rfl) ?_
  intro J hNI F hF hFi
  have c1 := fun j => in_class (f := 23) hF hFi j (HG.out.1 _ (below_chain HY.out.2.2 (hF j)))
  have c2 := fun j => in_classB (f := 11) hF hFi j (HW.out _ (below_chain HY.out.2.2 (hF j)))
  have v1 := fun j => rangeAt_whole (((hF j).block r1 (Array.getElem?_eq_some_iff.1 HY.out.1).1).trans HY.out.1)
  have h0 : ∀ j, (F j).cell? ⟨W.heap.size, 0, none⟩ = some (.int .i64 (N : Int)) := fun j => (H0.out.2.1 _ (below_chain HY.out.2.1 (hF j))).1
  have h1 : ∀ j, (F j).cell? ⟨W.heap.size, 1, none⟩ = some (.int .i64 (I : Int)) := fun j => (H0.out.2.1 _ (below_chain HY.out.2.1 (hF j))).2.1
  have h2 : ∀ j, (F j).cell? ⟨W.heap.size, 2, none⟩ = some (.slice bA b.length bc) := fun j => (H0.out.2.1 _ (below_chain HY.out.2.1 (hF j))).2.2.1
  have h3 : ∀ j, (F j).cell? ⟨W.heap.size, 3, none⟩ = some (.slice pA xs.length pc) := fun j => (H0.out.2.1 _ (below_chain HY.out.2.1 (hF j))).2.2.2
  have HFF := Lib.hid (And.intro c1 (And.intro c2 (And.intro v1 hF)))
  clear c1 c2 v1 hF hFi
  repeat (first | (refine wpQuiet_load_dig_w rfl (.tmp 9) rfl r1 0 rfl D HG.out.2.1 (by rintro _ ⟨n, rfl⟩; exact HFF.out.2.2.1 n) ?_; simp only [Act.put, List.setIfInBounds_toArray, List.set_cons_succ, List.set_cons_zero]) | go_big_quiet_step ((first | (go_at_call 23; exact HFF.out.1 _) | (go_at_call 11; exact HFF.out.2.1 _))))
  refine wpQuiet_nil ?_
  rintro x8 ⟨j, hj⟩
  have hB8 : Below W.heap.size W x8 := by rw [hj]; exact below_chain HY.out.2.2 (HFF.out.2.2.2 j)
  have HB8 := Lib.hid hB8
  clear hB8 hj HFF h0 h1 h2 h3
  go_wp2_with fail
  go_ret
  exact ⟨rfl, HB8.out⟩
end Go.Proofs.YtplcjgpmainbnaaDoor.RmW
