/- The law StepsTell: its walk. Printed by genptk.py. -/
import Derived.Test.YtfhaebaegkpkhaaTlI
import Derived.Test.YtfhaebaegkpkhaaTlJ
import Derived.Test.YtfhaebaegkpkhaaTlD
import Derived.Test.YtfhaebaegkpkhaaTlE
import Derived.Test.YtfhaebaegkpkhaaInts2
import Derived.Deep.CutRange
import Derived.Test.YtfhaebaegkpkhaaQFork
set_option linter.unusedVariables false
set_option linter.unusedSimpArgs false
namespace Go.Proofs.Ytfhaebaegkpkhaa.Tl
open Go.RowKit OwnS Byt Cfg Stp Pln QTail RevL Ten Bpe Fil Rf12 Go.Shelf
attribute [local go_sem] Oper.semAt_some
attribute [local go_sem ↓] Kit.execOp_call_slot
attribute [local go_sem] Kit.callSlot_func
/-- The plan, the reference's plan and its steps, in memory. -/
structure TlAt (w4 w : World) (PB RB SK : Nat) (p : Pln) (ctx Kp : Int) (A : Option Addr) (N c : Nat) : Prop where
  below : Below w4.heap.size w4 w
  pl : w.heap[PB]? = some (.cells (planC p ctx Kp).toArray 62 (0, 0))
  rf : w.heap[RB]? = some (.cells (refC p).toArray 84 (0, 0))
  sk : w.heap[SK]? = some (.cells [Value.slice A N c].toArray 86 (0, 0))
  want : Sees w 5 (.slice A N c) N (flatS (stepsL p))
theorem TlAt.new {w4 w w' : World} {PB RB SK : Nat} {p : Pln} {ctx Kp : Int} {A : Option Addr} {N c : Nat} (x : TlAt w4 w PB RB SK p ctx Kp A N c) (h : Below w.heap.size w w') : TlAt w4 w' PB RB SK p ctx Kp A N c :=
  ⟨below_chain x.below h, (h.block _ (Array.getElem?_eq_some_iff.1 x.pl).1).trans x.pl, (h.block _ (Array.getElem?_eq_some_iff.1 x.rf).1).trans x.rf, (h.block _ (Array.getElem?_eq_some_iff.1 x.sk).1).trans x.sk, x.want.new h⟩
theorem TlAt.skc {w4 w : World} {PB RB SK : Nat} {p : Pln} {ctx Kp : Int} {A : Option Addr} {N c : Nat} (x : TlAt w4 w PB RB SK p ctx Kp A N c) : w.cell? ⟨SK, 0, none⟩ = some (.slice A N c) := by rw [cell_of_row _ _ 0 _ _ _ x.sk]; rfl
theorem neq_rstep (w : World) (s y : Stp.Stp) : (binOp .neq 88 (.agg s.cells.toArray) (.agg y.cells.toArray)).run Try.prog w = .ok (.bool (decide (s ≠ y))) w := by
  obtain ⟨a0, a1, a2, a3, a4⟩ := s
  obtain ⟨b0, b1, b2, b3, b4⟩ := y
  have he : decide ((⟨a0, a1, a2, a3, a4⟩ : Stp.Stp) ≠ ⟨b0, b1, b2, b3, b4⟩) = !(decide (a0 = b0) && (decide (a1 = b1) && (decide (a2 = b2) && (decide (a3 = b3) && decide (a4 = b4))))) := by
    rw [Bool.eq_iff_iff]
    simp [Stp.Stp.mk.injEq]
  rw [he]
  unfold Stp.Stp.cells
  simp [go_sem]
  by_cases h0 : a0 = b0 <;> by_cases h1 : a1 = b1 <;> by_cases h2 : a2 = b2 <;> by_cases h3 : a3 = b3 <;> by_cases h4 : a4 = b4 <;> simp [h0, h1, h2, h3, h4]
theorem rem5 (w : World) (n : Nat) (hn : n ≤ 1000000) : (binOp .rem 3 (.int .i64 (n : Int)) (.int .i64 5)).run Try.prog w = .ok (.int .i64 ((n % 5 : Nat) : Int)) w := by
  simp [go_sem]
  exact Int.tmod_eq_emod_of_nonneg (Int.natCast_nonneg n)
theorem mem_steps {p : Pln} {s : Stp.Stp} (h : s ∈ stepsL p) : ∃ a, a < p.places ∧ s ∈ Stp.placeL p a := by
  unfold stepsL stepsTo at h
  obtain ⟨a, ha, h⟩ := List.mem_flatMap.1 h
  exact ⟨a, List.mem_range.1 ha, h⟩
theorem prefix_at {l pre : List Stp.Stp} {x y : Stp.Stp} (h : pre ++ [x] <+: l) (hy : l[pre.length]? = some y) : x = y := by
  obtain ⟨t, rfl⟩ := h
  rw [List.append_assoc, List.getElem?_append_right (Nat.le_refl _), Nat.sub_self] at hy
  simpa using hy
theorem prefix_next {l pre : List Stp.Stp} {y : Stp.Stp} (h : pre <+: l) (hy : l[pre.length]? = some y) : pre ++ [y] <+: l := by
  obtain ⟨t, rfl⟩ := h
  rw [List.getElem?_append_right (Nat.le_refl _), Nat.sub_self] at hy
  cases t with
  | nil => simp at hy
  | cons z t =>
    simp at hy
    subst hy
    exact ⟨t, by simp⟩
theorem others_below {A B : World} (h : Below A.heap.size A B) : KeepsOthers A B := ⟨h.size, fun k o hk _ => (h.block k (Array.getElem?_eq_some_iff.1 hk).1).trans hk⟩
theorem rtab_bound (k : Int) : (rtab k).length ≤ 2 := by
  unfold rtab
  split <;> simp
theorem readsL_bound (PL : Nat) {s : Stp.Stp} {at_ : Nat} (hok : StpOk s at_) (hat : at_ ≤ 64) : (readsL PL s).length ≤ 1000000 := by
  unfold readsL
  have h1 := rtab_bound s.kind
  have h2 := hok.pos
  split
  · simp
  · split
    · rw [List.length_append, keysL_length]
      simp only [List.length_cons, List.length_nil]
      omega
    · omega
theorem second_alloc (w : World) (o1 : Obj) (cs : Array Value) (t : TypeId) : ((w.alloc o1).alloc (.cells cs t)).heap[w.heap.size + 1]? = some (.cells cs t (0, 0)) := by
  have := heap_alloc_new (w.alloc o1) (.cells cs t)
  simpa using this
theorem okp_small {p : Pln} {ctx K : Int} (h : Okp p ctx K) : Small p := by
  obtain ⟨h1, h2, h3⟩ := h.facts
  exact ⟨h1, h2, h.2.1.1, h3⟩
set_option maxRecDepth 100000 in
set_option maxHeartbeats 16000000 in
theorem stl (W : World) (s0 s1 s2 s3 s4 s5 : Int) (A : Option Addr) (n c : Nat) (fill : List Int) (hf : Ints W (.slice A n c) fill) (hn : n = fill.length) (askL : List Value) (Ap : Option Addr) (np cp : Nat) (l : List Int) (hin : Ints W (.slice Ap np cp) l) (hnp : np = l.length) (K limit : Int) (h0 : askL[0]? = some (.slice Ap np cp)) (h33 : askL[33]? = some (.int .i64 K)) (h34 : askL[34]? = some (.int .i64 limit)) (hlen : askL.length = 36) :
    Calls Try.prog 6 #[.agg #[.int .i64 s0, .int .i64 s1, .int .i64 s2, .int .i64 s3, .int .i64 s4, .int .i64 s5, .slice A n c], .agg askL.toArray] W fun e w' => e = .returned (.bool true) ∧ Below W.heap.size W w' := by
  obtain ⟨w1, hw1⟩ : ∃ w1, w1 = ((W.alloc (.cells #[.int .i64 s0, .int .i64 s1, .int .i64 s2, .int .i64 s3, .int .i64 s4, .int .i64 s5, .slice A n c] 49)).alloc (.cells askL.toArray 80)).alloc (.cells #[.bool false] 4) := ⟨_, rfl⟩
  have hb1 : Below W.heap.size W w1 := by rw [hw1]; exact (((Below.refl _ _).alloc (Nat.le_refl _) _).alloc (by simp) _).alloc (by simp; omega) _
  have hz1 : w1.heap.size = W.heap.size + 3 := by rw [hw1]; simp
  have hsp : w1.heap[W.heap.size]? = some (.cells [Value.int .i64 s0, .int .i64 s1, .int .i64 s2, .int .i64 s3, .int .i64 s4, .int .i64 s5, .slice A n c].toArray 49 (0, 0)) := by rw [hw1, Below.heap_alloc _ _ _ (by simp <;> omega), Below.heap_alloc _ _ _ (by simp)]; exact heap_alloc_new W _
  have hask : w1.heap[W.heap.size + 1]? = some (.cells askL.toArray 80 (0, 0)) := by
    rw [hw1, Below.heap_alloc _ _ _ (by simp)]
    have := heap_alloc_new (W.alloc (.cells #[.int .i64 s0, .int .i64 s1, .int .i64 s2, .int .i64 s3, .int .i64 s4, .int .i64 s5, .slice A n c] 49)) (.cells askL.toArray 80)
    simpa using this
  have hre : w1.heap[W.heap.size + 1 + 1]? = some (.cells [Value.bool false].toArray 4 (0, 0)) := by
    rw [hw1]
    have := heap_alloc_new ((W.alloc (.cells #[.int .i64 s0, .int .i64 s1, .int .i64 s2, .int .i64 s3, .int .i64 s4, .int .i64 s5, .slice A n c] 49)).alloc (.cells askL.toArray 80)) (.cells #[.bool false] 4)
    simpa using this
  have a0 : w1.cell? ⟨W.heap.size, 0, none⟩ = some (.int .i64 s0) := by rw [cell_of_row _ _ 0 _ _ _ hsp]; rfl
  have a1 : w1.cell? ⟨W.heap.size, 1, none⟩ = some (.int .i64 s1) := by rw [cell_of_row _ _ 1 _ _ _ hsp]; rfl
  have a2 : w1.cell? ⟨W.heap.size, 2, none⟩ = some (.int .i64 s2) := by rw [cell_of_row _ _ 2 _ _ _ hsp]; rfl
  have a3 : w1.cell? ⟨W.heap.size, 3, none⟩ = some (.int .i64 s3) := by rw [cell_of_row _ _ 3 _ _ _ hsp]; rfl
  have a4 : w1.cell? ⟨W.heap.size, 4, none⟩ = some (.int .i64 s4) := by rw [cell_of_row _ _ 4 _ _ _ hsp]; rfl
  have a5 : w1.cell? ⟨W.heap.size, 5, none⟩ = some (.int .i64 s5) := by rw [cell_of_row _ _ 5 _ _ _ hsp]; rfl
  have a6 : w1.cell? ⟨W.heap.size, 6, none⟩ = some (.slice A n c) := by rw [cell_of_row _ _ 6 _ _ _ hsp]; rfl
  have hpd := planned_any w1 s0 s1 s2 s3 s4 s5 A n c fill (hf.new hb1) hn askL Ap np cp l (hin.new hb1) hnp K limit h0 h33 h34 hlen
  have HW := Lib.hid hw1
  have HC := Lib.hid (And.intro hb1 (And.intro hpd (And.intro hask (And.intro hre (And.intro hz1 hlen)))))
  clear hw1 hb1 hpd hask hsp hf hn hre hz1 hin hnp h0 h33 h34 hlen
  refine (callsIn_wide (n := 9)).1 ?_
  refine callsIn_of_wp_marks Try.func6 rfl trivial ?_ rfl
  simp only [Try.ntmps6, List.size_toArray, List.length_cons, List.length_nil, Nat.reduceAdd, Nat.reduceSub, Array.replicate_succ, Array.replicate_zero, List.push_toArray, List.append_toArray, List.nil_append, List.cons_append]
  refine wpIn_wide.2 ?_
  go_upto_region 1 with fail
  change Code.wp _ _ _ _ (((W.alloc (.cells #[.int .i64 s0, .int .i64 s1, .int .i64 s2, .int .i64 s3, .int .i64 s4, .int .i64 s5, .slice A n c] 49)).alloc (.cells askL.toArray 80)).alloc (.cells #[.bool false] 4))
  rw [← HW.out]
  obtain ⟨R, hR⟩ : ∃ R, R = W.heap.size + 1 + 1 := ⟨_, rfl⟩
  rw [← hR]
  have HR := Lib.hid hR
  clear hR
  go_upto_region 2 with (first | (refine wpList_load_mid rfl 80 (.tmp 3) rfl (W.heap.size + 1) 0 rfl askL _ (rangeAt_whole HC.out.2.2.1) Try.underlying80 rfl (by rw [ask_size, HC.out.2.2.2.2.2]) ?_; simp only [Act.put, List.setIfInBounds_toArray, List.set_cons_succ, List.set_cons_zero]) | (go_at_call 32; (with_reducible refine Calls.mono HC.out.2.1 ?_); rintro e w3 ⟨L, Lp, b, rfl, hL, hone, hdim, hLp, hpone, hb3, hok⟩; have HO := Lib.hid (And.intro hL (And.intro hone (And.intro hdim (And.intro hLp (And.intro hpone (And.intro hb3 hok)))))); clear hL hone hdim hLp hpone hb3 hok a0 a1 a2 a3 a4 a5 a6) | (refine wpList_store_wts rfl (.tmp 5) (.tmp 23) rfl w3.heap.size rfl L rfl HO.out.1 HO.out.2.1 zeroL (by rw [Below.heap_alloc _ _ _ (by simp)]; exact heap_alloc_new w3 _) rfl ?_; simp only [Act.put, List.setIfInBounds_toArray, List.set_cons_succ, List.set_cons_zero]) | (refine wpList_store_row rfl 62 (.tmp 6) (.tmp 24) rfl (w3.heap.size + 1) Lp.toArray rfl rfl 62 zeroP.toArray (by rw [setRow_other _ _ _ _ (by omega)]; exact second_alloc w3 _ _ _) (by rw [plan_size, List.size_toArray, HO.out.2.2.2.1]) (by rw [List.size_toArray, List.size_toArray, HO.out.2.2.2.1]; rfl) (all_oneCell_toArray HO.out.2.2.2.2.1) ?_; simp only [Act.put, List.setIfInBounds_toArray, List.set_cons_succ, List.set_cons_zero]))
  change Code.wp _ _ _ _ ((((w3.alloc (.cells zeroL.toArray 31)).alloc (.cells zeroP.toArray 62)).setRow w3.heap.size L.toArray).setRow (w3.heap.size + 1) Lp.toArray)
  obtain ⟨w4, hw4⟩ : ∃ w4, w4 = (((w3.alloc (.cells zeroL.toArray 31)).alloc (.cells zeroP.toArray 62)).setRow w3.heap.size L.toArray).setRow (w3.heap.size + 1) Lp.toArray := ⟨_, rfl⟩
  rw [← hw4]
  have hb34 : Below w3.heap.size w3 w4 := by rw [hw4]; exact Fil.below_setRow (Fil.below_setRow (((Below.refl _ _).alloc (Nat.le_refl _) _).alloc (by simp) _) _ _ (Nat.le_refl _)) _ _ (by omega)
  have hgP : ((w3.alloc (.cells zeroL.toArray 31)).alloc (.cells zeroP.toArray 62)).heap[w3.heap.size + 1]? = some (.cells zeroP.toArray 62 (0, 0)) := by
    have := heap_alloc_new (w3.alloc (.cells zeroL.toArray 31)) (.cells zeroP.toArray 62)
    simpa using this
  have hblk : w4.heap[w3.heap.size]? = some (.cells L.toArray 31 (0, 0)) := by
    rw [hw4, setRow_other _ _ _ _ (by omega)]
    exact setRow_heap _ _ _ _ _ _ (by rw [Below.heap_alloc _ _ _ (by simp)]; exact heap_alloc_new w3 _)
  have hpl4 : w4.heap[w3.heap.size + 1]? = some (.cells Lp.toArray 62 (0, 0)) := by
    rw [hw4]
    exact setRow_heap _ _ _ _ _ _ (by rw [setRow_other _ _ _ _ (by omega)]; exact hgP)
  obtain ⟨Bm, hBm⟩ : ∃ Bm, Bm = w3.heap.size := ⟨_, rfl⟩
  rw [← hBm] at hblk hpl4 ⊢
  obtain ⟨PB, hPB⟩ : ∃ PB, PB = Bm + 1 := ⟨_, rfl⟩
  rw [← hPB] at hpl4 ⊢
  have hb14 := below_chain HO.out.2.2.2.2.2.1 hb34
  have hBm2 : w1.heap.size ≤ Bm := by rw [hBm]; exact HO.out.2.2.2.2.2.1.size
  have hre4 : w4.heap[R]? = some (.cells [Value.bool false].toArray 4 (0, 0)) := by rw [HR.out]; exact (hb14.block _ (Array.getElem?_eq_some_iff.1 HC.out.2.2.2.1).1).trans HC.out.2.2.2.1
  have hRP : R < PB := by have := HR.out; have := HC.out.2.2.2.2.1; omega
  have hfin : ∀ wA, Below w4.heap.size w4 wA → wA.cell? ⟨R, 0, none⟩ = some (.bool false) ∧ wA.frozen? ⟨R, 0, none⟩ = false ∧ (wA.setCell ⟨R, 0, none⟩ (.bool true)).cell? ⟨R, 0, none⟩ = some (.bool true) ∧ Below W.heap.size W (wA.setCell ⟨R, 0, none⟩ (.bool true)) := fun wA hb => by
    have hreA := (hb.block _ (Array.getElem?_eq_some_iff.1 hre4).1).trans hre4
    have cA : wA.cell? ⟨R, 0, none⟩ = some (.bool false) := by rw [cell_of_row _ _ 0 _ _ _ hreA]; rfl
    exact ⟨cA, frozen_of_row _ _ 0 _ _ hreA, World.cell?_setCell_same' _ _ _ (by rw [cA]; rfl), (below_chain (below_chain HC.out.1 hb14) hb).setCell (p := ⟨R, 0, none⟩) (by have := HR.out; simp; omega) _⟩
  have HF := Lib.hid hfin
  have H4 := Lib.hid (And.intro hblk (And.intro hpl4 (And.intro hb14 (And.intro hre4 hRP))))
  clear hfin hblk hpl4 hb14 hre4 hRP hBm2 hPB hBm hgP hb34 hw4
  cases b with
  | false =>
    as_aux_lemma =>
      obtain ⟨d, hd0, hd1⟩ := HO.out.2.2.1
      have m1 : w4.cell? ⟨Bm, 1, none⟩ = some (.int .i64 d) := by rw [cell_of_row _ _ 1 _ _ _ H4.out.1]; simpa using hd1
      clear hd1
      go_wp2_with (go_at_call 20; (with_reducible refine Calls.mono (Pln.awake_any _) ?_); rintro e wA ⟨rfl, hbA⟩; obtain ⟨cA, fA, gA, bA⟩ := HF.out wA hbA; have HAW := Lib.hid bA; clear hbA bA)
      exact ⟨.bool true, by simp [results, Try.f6, go_sem, gA], rfl, HAW.out⟩
  | true =>
    obtain ⟨p, ctx, Kp, hLpe, hokp⟩ := HO.out.2.2.2.2.2.2 rfl
    rw [hLpe] at H4
    have hsm := okp_small hokp
    have hof := fun w => of_any w p ctx Kp
    have hrs := fun w => rsteps_any w p hsm
    have hst := fun w => steps_any w (planC p ctx Kp)
    obtain ⟨N, hN⟩ : ∃ N, N = (stepsL p).length := ⟨_, rfl⟩
    rw [← hN] at hrs
    have HK := Lib.hid (And.intro hokp (And.intro hsm (And.intro hof (And.intro hrs (And.intro hst (And.intro hN HO.out.1))))))
    clear hokp hsm hof hrs hst hN hLpe HO
    go_upto_region 5 with (first | (refine wpList_load_mid rfl 62 (.tmp 6) rfl PB 0 rfl (planC p ctx Kp) _ (rangeAt_whole (H4.out.2.1)) Try.underlying62 rfl plan_size ?_; simp only [Act.put, List.setIfInBounds_toArray, List.set_cons_succ, List.set_cons_zero]) | (go_at_call 33; (with_reducible refine Calls.mono (HK.out.2.2.1 w4) ?_); rintro e w5 ⟨rfl, hb5⟩; have H5 := Lib.hid hb5; clear hb5) | (refine wpList_store_row rfl 84 (.tmp 8) (.tmp 36) rfl w5.heap.size (refC p).toArray rfl rfl 84 (List.replicate 7 (Value.int .i64 0)).toArray (heap_alloc_new w5 _) ref_size rfl (by unfold refC; simp [Value.oneCell']) ?_; simp only [Act.put, List.setIfInBounds_toArray, List.set_cons_succ, List.set_cons_zero]))
    change Code.wp _ _ _ _ ((w5.alloc (.cells (List.replicate 7 (Value.int .i64 0)).toArray 84)).setRow w5.heap.size (refC p).toArray)
    obtain ⟨w6, hw6⟩ : ∃ w6, w6 = (w5.alloc (.cells (List.replicate 7 (Value.int .i64 0)).toArray 84)).setRow w5.heap.size (refC p).toArray := ⟨_, rfl⟩
    rw [← hw6]
    have hrf6 : w6.heap[w5.heap.size]? = some (.cells (refC p).toArray 84 (0, 0)) := by rw [hw6]; exact setRow_heap _ _ _ _ _ _ (heap_alloc_new w5 _)
    have hb56 : Below w5.heap.size w5 w6 := by rw [hw6]; exact Fil.below_setRow ((Below.refl _ _).alloc (Nat.le_refl _) _) _ _ (Nat.le_refl _)
    have hb46 := below_chain H5.out hb56
    have hpl6 := (hb46.block _ (Array.getElem?_eq_some_iff.1 H4.out.2.1).1).trans H4.out.2.1
    obtain ⟨RB, hRB⟩ : ∃ RB, RB = w5.heap.size := ⟨_, rfl⟩
    rw [← hRB] at hrf6 ⊢
    have H6 := Lib.hid (And.intro hb46 (And.intro hpl6 hrf6))
    clear hw6 hb56 hb46 hpl6 hrf6 hRB
    go_upto_region 6 with (first | (refine wpList_load_mid rfl 84 (.tmp 8) rfl RB 0 rfl (refC p) _ (rangeAt_whole H6.out.2.2) Try.underlying84 rfl ref_size ?_; simp only [Act.put, List.setIfInBounds_toArray, List.set_cons_succ, List.set_cons_zero]) | (go_at_call 34; (with_reducible refine Calls.mono (HK.out.2.2.2.1 w6) ?_); rintro e w7 ⟨A7, c7, rfl, ho7, hb7⟩; have H7 := Lib.hid (And.intro ho7.sees hb7); clear ho7 hb7))
    obtain ⟨w8, hw8⟩ : ∃ w8, w8 = w7.alloc (.cells #[.slice A7 N c7] 86) := ⟨_, rfl⟩
    rw [← hw8]
    have hsk8 : w8.heap[w7.heap.size]? = some (.cells [Value.slice A7 N c7].toArray 86 (0, 0)) := by rw [hw8]; exact heap_alloc_new w7 _
    have hb78 : Below w7.heap.size w7 w8 := by rw [hw8]; exact (Below.refl _ _).alloc (Nat.le_refl _) _
    have hb68 := below_chain H7.out.2 hb78
    obtain ⟨SK, hSK⟩ : ∃ SK, SK = w7.heap.size := ⟨_, rfl⟩
    rw [← hSK] at hsk8 ⊢
    have hx8 : TlAt w4 w8 PB RB SK p ctx Kp A7 N c7 := ⟨below_chain H6.out.1 hb68, (hb68.block _ (Array.getElem?_eq_some_iff.1 H6.out.2.1).1).trans H6.out.2.1, (hb68.block _ (Array.getElem?_eq_some_iff.1 H6.out.2.2).1).trans H6.out.2.2, hsk8, H7.out.1.new hb78⟩
    have H8 := Lib.hid hx8
    clear hw8 hsk8 hb78 hb68 hSK hx8 H7 H6 H5
    go_upto_region 7 with (first | (refine wpList_load_mid rfl 62 (.tmp 6) rfl PB 0 rfl (planC p ctx Kp) _ (rangeAt_whole (H8.out.pl)) Try.underlying62 rfl plan_size ?_; simp only [Act.put, List.setIfInBounds_toArray, List.set_cons_succ, List.set_cons_zero]) | (go_at_call 26; (with_reducible refine Calls.mono (HK.out.2.2.2.2.1 w8) ?_); rintro e w9 ⟨q, rfl, hqs, hq, hb9⟩; have H9 := Lib.hid (And.intro (H8.out.new hb9) hq); clear hb9 hqs hq))
    have hok9 := HK.out.1
    have hnn := fun w => seq_ne_nil w
    go_cut [73] from 41 (fun v73 wx => v73 = .bool false ∧ Below w9.heap.size w9 wx)
    case first =>
      as_aux_lemma =>
        have hck : ∀ w, Calls Try.prog 24 #[.agg (planC p ctx Kp).toArray] w fun e w' => e = .returned (.int .i64 0) ∧ Below w.heap.size w w' := fun w => by
          have h1 := pcheck_right w (c6P p ctx) p.prompt p.limit Kp hok9.1 hok9.2.1
          rw [hok9.2.2] at h1
          exact h1
        have hmy := fun w => many_any w p ctx Kp hok9
        rw [← HK.out.2.2.2.2.2.1] at hmy
        have hpp := fun w => places_any w p ctx Kp hok9
        have hrp := fun w => rplaces_any w p HK.out.2.1
        have hce := fun w => cells_any w p ctx Kp hok9
        obtain ⟨⟨b1, b2, b3, b4, b5⟩, -, -⟩ := hok9.facts
        have hPb := HK.out.2.1.places.2
        have hci := cellsN_int p
        have hcb := cellsN_bound b4 hPb
        obtain ⟨PL, hPL⟩ : ∃ PL, PL = p.places := ⟨_, rfl⟩
        obtain ⟨C, hC⟩ : ∃ C, C = cellsN p := ⟨_, rfl⟩
        rw [← hPL] at hpp hrp hci
        rw [← hC] at hce hci hcb
        obtain ⟨m, hm⟩ : ∃ m : Int, 2 * (p.layers : Int) * (PL : Int) = m := ⟨_, rfl⟩
        rw [hm] at hci
        have m0 : 0 ≤ m := by rw [← hm]; exact Int.mul_nonneg (by omega) (by omega)
        have m1 : m ≤ 512 := by omega
        have l1 : (p.layers : Int) ≤ 4 := by omega
        have HD := Lib.hid (And.intro hck (And.intro hmy (And.intro hpp (And.intro hrp hce))))
        have hd : Below w9.heap.size w9 w9.drew := ⟨rfl, rfl, rfl, Nat.le_refl _, fun _ _ => rfl⟩
        have hx9 := H9.out.1
        clear hck hmy hpp hrp hce hok9 b1 b2 b3 b4 b5 hPb hcb hPL hC
        refine wp_region_plan (fun w' => Below w9.heap.size w9 w') (Plan.ofList [0, 1, 2, 3, 4, 5, 6, 7, 8, 10] (.fork 9 (Plan.ofList (11 :: [12, 13, 14, 15, 17, 16, 18, 19, 20, 21, 22, 24, 25, 26, 27, 23, 28, 29, 30, 31, 32]) .nil) 11 (Plan.ofList (9 :: [12, 13, 14, 15, 17, 16, 18, 19, 20, 21, 22, 24, 25, 26, 27, 23, 28, 29, 30, 31, 32]) .nil))) (by kernel_rfl) (by kernel_rfl) (by kernel_rfl) hd ?_
        intro I hNI FF hFF
        have hgx := fun j => hx9.new (hFF j)
        have G1 : ∀ j, (FF j).rangeAt PB 0 (planC p ctx Kp) := fun j => rangeAt_whole (hgx j).pl
        have G2 : ∀ j, (FF j).rangeAt RB 0 (refC p) := fun j => rangeAt_whole (hgx j).rf
        have e2 : ∀ j, (FF j).cell? ⟨RB, 2, none⟩ = some (.int .i64 (p.layers : Int)) := fun j => (ref_cells (hgx j).rf).2.2.1
        have esk : ∀ j, (FF j).cell? ⟨SK, 0, none⟩ = some (.slice A7 N c7) := fun j => (hgx j).skc
        have HG := Lib.hid (And.intro G1 (And.intro G2 hd))
        clear hFF G1 G2 hgx hd hx9
        simp only [Plan.ofList, Plan.lay, List.getElem?_cons_succ, List.getElem?_cons_zero]
        iterate 3 (refine plan_take rfl ?_; go_big_quiet_step (fail); refine wpQuiet_nil ?_)
        refine plan_take rfl ?_
        refine wpQuiet_load_mid_w (by kernel_rfl) 62 (.tmp 6) rfl PB 0 rfl (planC p ctx Kp) _ (by rintro _ ⟨j, rfl⟩; exact HG.out.1 j) Try.underlying62 rfl plan_size ?_
        simp only [Act.put, List.setIfInBounds_toArray, List.set_cons_succ, List.set_cons_zero]
        refine wpQuiet_nil ?_
        refine plan_step rfl ?_
        go_wp2_with (go_at_call 24; (with_reducible refine Calls.mono (HD.out.1 _) ?_); rintro e w10 ⟨rfl, hb10⟩; have H10 := Lib.hid (HG.out.2.2.trans hb10); clear hb10)
        refine ⟨rfl, H10.out, ?_⟩
        iterate 3 (refine plan_take rfl ?_; go_big_quiet_step (fail); refine wpQuiet_nil ?_)
        refine plan_take rfl ?_
        refine wpQuiet_load_mid_w (by kernel_rfl) 62 (.tmp 6) rfl PB 0 rfl (planC p ctx Kp) _ (by rintro _ ⟨j, rfl⟩; exact HG.out.1 j) Try.underlying62 rfl plan_size ?_
        simp only [Act.put, List.setIfInBounds_toArray, List.set_cons_succ, List.set_cons_zero]
        refine wpQuiet_nil ?_
        iterate 1 (refine plan_take rfl ?_; go_big_quiet_step (fail); refine wpQuiet_nil ?_)
        refine plan_fork ?_ ?_
        · go_wp2_with (go_at_call 25; (with_reducible refine Calls.mono (HD.out.2.1 _) ?_); rintro e w11 ⟨rfl, hb11⟩; have H11 := Lib.hid (below_chain H10.out hb11); clear hb11)
          refine ⟨rfl, H11.out, ?_⟩
          refine plan_step rfl ?_
          go_wp2_with fail
          refine ⟨rfl, H11.out, ?_⟩
          iterate 3 (refine plan_take rfl ?_; go_big_quiet_step (fail); refine wpQuiet_nil ?_)
          refine plan_take rfl ?_
          refine wpQuiet_load_mid_w (by kernel_rfl) 62 (.tmp 6) rfl PB 0 rfl (planC p ctx Kp) _ (by rintro _ ⟨j, rfl⟩; exact HG.out.1 j) Try.underlying62 rfl plan_size ?_
          simp only [Act.put, List.setIfInBounds_toArray, List.set_cons_succ, List.set_cons_zero]
          refine wpQuiet_nil ?_
          refine plan_take rfl ?_
          refine wpQuiet_load_mid_w (by kernel_rfl) 84 (.tmp 8) rfl RB 0 rfl (refC p) _ (by rintro _ ⟨j, rfl⟩; exact HG.out.2.1 j) Try.underlying84 rfl ref_size ?_
          simp only [Act.put, List.setIfInBounds_toArray, List.set_cons_succ, List.set_cons_zero]
          refine wpQuiet_nil ?_
          refine plan_step rfl ?_
          go_wp2_with (go_at_call 30; (with_reducible refine Calls.mono (HD.out.2.2.1 _) ?_); rintro e w12 ⟨rfl, hb12⟩; have H12 := Lib.hid (below_chain H11.out hb12); clear hb12)
          refine ⟨rfl, H12.out, ?_⟩
          refine plan_step rfl ?_
          go_wp2_with (go_at_call 35; (with_reducible refine Calls.mono (HD.out.2.2.2.1 _) ?_); rintro e w13 ⟨rfl, hb13⟩; have H13 := Lib.hid (below_chain H12.out hb13); clear hb13)
          refine ⟨rfl, H13.out, ?_⟩
          iterate 3 (refine plan_take rfl ?_; go_big_quiet_step (fail); refine wpQuiet_nil ?_)
          refine plan_take rfl ?_
          refine wpQuiet_load_mid_w (by kernel_rfl) 62 (.tmp 6) rfl PB 0 rfl (planC p ctx Kp) _ (by rintro _ ⟨j, rfl⟩; exact HG.out.1 j) Try.underlying62 rfl plan_size ?_
          simp only [Act.put, List.setIfInBounds_toArray, List.set_cons_succ, List.set_cons_zero]
          refine wpQuiet_nil ?_
          iterate 3 (refine plan_take rfl ?_; go_big_quiet_step (fail); refine wpQuiet_nil ?_)
          refine plan_take rfl ?_
          refine wpQuiet_load_mid_w (by kernel_rfl) 84 (.tmp 8) rfl RB 0 rfl (refC p) _ (by rintro _ ⟨j, rfl⟩; exact HG.out.2.1 j) Try.underlying84 rfl ref_size ?_
          simp only [Act.put, List.setIfInBounds_toArray, List.set_cons_succ, List.set_cons_zero]
          refine wpQuiet_nil ?_
          refine plan_step rfl ?_
          go_wp2_with (go_at_call 29; (with_reducible refine Calls.mono (HD.out.2.2.2.2 _) ?_); rintro e w14 ⟨rfl, hb14⟩; have H14 := Lib.hid (below_chain H13.out hb14); clear hb14)
          refine ⟨rfl, H14.out, ?_⟩
          refine plan_step rfl ?_
          go_wp2_with (go_at_call 35; (with_reducible refine Calls.mono (HD.out.2.2.2.1 _) ?_); rintro e w15 ⟨rfl, hb15⟩; have H15 := Lib.hid (below_chain H14.out hb15); clear hb15)
          refine ⟨rfl, H15.out, ?_⟩
          iterate 4 (refine plan_take rfl ?_; go_big_quiet_step (fail); refine wpQuiet_nil ?_)
          refine plan_nil ?_
          go_wp2_with fail
          go_meet
          exact ⟨rfl, H15.out⟩
        · go_wp2_with fail
          refine ⟨rfl, H10.out, ?_⟩
          refine plan_step rfl ?_
          go_wp2_with (go_at_call 25; (with_reducible refine Calls.mono (HD.out.2.1 _) ?_); rintro e w11 ⟨rfl, hb11⟩; have H11 := Lib.hid (below_chain H10.out hb11); clear hb11)
          refine ⟨rfl, H11.out, ?_⟩
          iterate 3 (refine plan_take rfl ?_; go_big_quiet_step (fail); refine wpQuiet_nil ?_)
          refine plan_take rfl ?_
          refine wpQuiet_load_mid_w (by kernel_rfl) 62 (.tmp 6) rfl PB 0 rfl (planC p ctx Kp) _ (by rintro _ ⟨j, rfl⟩; exact HG.out.1 j) Try.underlying62 rfl plan_size ?_
          simp only [Act.put, List.setIfInBounds_toArray, List.set_cons_succ, List.set_cons_zero]
          refine wpQuiet_nil ?_
          refine plan_take rfl ?_
          refine wpQuiet_load_mid_w (by kernel_rfl) 84 (.tmp 8) rfl RB 0 rfl (refC p) _ (by rintro _ ⟨j, rfl⟩; exact HG.out.2.1 j) Try.underlying84 rfl ref_size ?_
          simp only [Act.put, List.setIfInBounds_toArray, List.set_cons_succ, List.set_cons_zero]
          refine wpQuiet_nil ?_
          refine plan_step rfl ?_
          go_wp2_with (go_at_call 30; (with_reducible refine Calls.mono (HD.out.2.2.1 _) ?_); rintro e w12 ⟨rfl, hb12⟩; have H12 := Lib.hid (below_chain H11.out hb12); clear hb12)
          refine ⟨rfl, H12.out, ?_⟩
          refine plan_step rfl ?_
          go_wp2_with (go_at_call 35; (with_reducible refine Calls.mono (HD.out.2.2.2.1 _) ?_); rintro e w13 ⟨rfl, hb13⟩; have H13 := Lib.hid (below_chain H12.out hb13); clear hb13)
          refine ⟨rfl, H13.out, ?_⟩
          iterate 3 (refine plan_take rfl ?_; go_big_quiet_step (fail); refine wpQuiet_nil ?_)
          refine plan_take rfl ?_
          refine wpQuiet_load_mid_w (by kernel_rfl) 62 (.tmp 6) rfl PB 0 rfl (planC p ctx Kp) _ (by rintro _ ⟨j, rfl⟩; exact HG.out.1 j) Try.underlying62 rfl plan_size ?_
          simp only [Act.put, List.setIfInBounds_toArray, List.set_cons_succ, List.set_cons_zero]
          refine wpQuiet_nil ?_
          iterate 3 (refine plan_take rfl ?_; go_big_quiet_step (fail); refine wpQuiet_nil ?_)
          refine plan_take rfl ?_
          refine wpQuiet_load_mid_w (by kernel_rfl) 84 (.tmp 8) rfl RB 0 rfl (refC p) _ (by rintro _ ⟨j, rfl⟩; exact HG.out.2.1 j) Try.underlying84 rfl ref_size ?_
          simp only [Act.put, List.setIfInBounds_toArray, List.set_cons_succ, List.set_cons_zero]
          refine wpQuiet_nil ?_
          refine plan_step rfl ?_
          go_wp2_with (go_at_call 29; (with_reducible refine Calls.mono (HD.out.2.2.2.2 _) ?_); rintro e w14 ⟨rfl, hb14⟩; have H14 := Lib.hid (below_chain H13.out hb14); clear hb14)
          refine ⟨rfl, H14.out, ?_⟩
          refine plan_step rfl ?_
          go_wp2_with (go_at_call 35; (with_reducible refine Calls.mono (HD.out.2.2.2.1 _) ?_); rintro e w15 ⟨rfl, hb15⟩; have H15 := Lib.hid (below_chain H14.out hb15); clear hb15)
          refine ⟨rfl, H15.out, ?_⟩
          iterate 4 (refine plan_take rfl ?_; go_big_quiet_step (fail); refine wpQuiet_nil ?_)
          refine plan_nil ?_
          go_wp2_with fail
          go_meet
          exact ⟨rfl, H15.out⟩
    case rest =>
      obtain ⟨rfl, hbc⟩ := hcut
      have hxc := H9.out.1.new hbc
      have hqc := (hbc.block _ (Array.getElem?_eq_some_iff.1 H9.out.2).1).trans H9.out.2
      have HX := Lib.hid (And.intro hxc hqc)
      clear hbc hxc hqc
      go_upto_region 10 with fail
      obtain ⟨wn, hwn⟩ : ∃ wn, wn = wc.alloc (.cells #[.int .i64 0] 3) := ⟨_, rfl⟩
      rw [← hwn]
      have hboxn : Boxed wn wc.heap.size 3 (.int .i64 ((([] : List Stp.Stp).length : Nat) : Int)) := by rw [hwn]; exact Boxed.new wc _ _
      have hbcn : Below wc.heap.size wc wn := by rw [hwn]; exact (Below.refl _ _).alloc (Nat.le_refl _) _
      have hsn : wn.heap.size = wc.heap.size + 1 := by rw [hwn]; simp
      obtain ⟨NB, hNB⟩ : ∃ NB, NB = wc.heap.size := ⟨_, rfl⟩
      rw [← hNB] at hboxn hsn ⊢
      have hqn := (hbcn.block _ (Array.getElem?_eq_some_iff.1 HX.out.2).1).trans HX.out.2
      have hqNB : q ≠ NB := by have := (Array.getElem?_eq_some_iff.1 HX.out.2).1; omega
      have HN := Lib.hid (And.intro hboxn (And.intro hbcn (And.intro hsn (And.intro hNB (And.intro hqn hqNB)))))
      clear hboxn hbcn hsn hNB hqn hqNB hwn hnn
      go_wp2_with fail
      generalize hA0 : Act.mk _ _ = a0
      refine (wpIn_wide (n := 9)).1 ?_
      refine wpIn_rangeFunc_ownH rfl (by omega) (gf := 77) (lb := #[.pointer (some ⟨q, 0, none⟩)]) (by rw [← hA0]; rfl) trivial (enters_of Try.func77 (by kernel_rfl) rfl) (steps_seq 8 (by omega) wn q (· = NB) p ctx Kp hok9 HN.out.2.2.2.2.2 HN.out.2.2.2.2.1 (by intro k hk; have := HN.out.2.2.1; omega)) KeepC.trans (fun W l o o' _ h ho _ => KeepC.putObj W l o o' h ho) (Below.refl _ _) (fun _ => rfl)
        (fun pre Wr => ((Boxed Wr NB 3 (.int .i64 (pre.length : Int)) ∧ Below wc.heap.size wc Wr) ∧ wn.heap.size ≤ Wr.heap.size) ∧ pre <+: stepsL p)
        (fun cc pre Wr => cc = .ret ∧ ¬ (pre <+: stepsL p))
        (OwnFrom.and (OwnFrom.and (OwnFrom.and (Own.from (boxed_own NB 3 (fun pre : List Stp.Stp => .int .i64 (pre.length : Int))) _) (ownFrom_below (Nat.le_refl _) (by have := HN.out.2.2.1; have := HN.out.2.2.2.1; omega))) (fun s A B row hs hg hr => Nat.le_trans hs hg.size)) (fun s A B row hs hg hr => hs))
        (fun _ _ _ _ _ hs _ _ => hs)
        ⟨⟨⟨HN.out.1, HN.out.2.1⟩, Nat.le_refl _⟩, List.nil_prefix⟩
        (fun x a' Wr => ∃ Bx, NB ≠ Bx ∧ wn.heap.size ≤ Bx ∧ Wr.heap[Bx]? = some (.cells x.cells.toArray 69 (0, 0)) ∧ a' = { tmps := (a0.tmps.setIfInBounds 75 x.val).setIfInBounds 12 (.pointer (some ⟨Bx, 0, none⟩)), defers := [] })
        ?hax ?assign ?body ?done ?stop
      case hax =>
        rintro x a' _ X Y row ⟨Bx, h1, h2, h3, h4⟩ hg hrow
        refine ⟨Bx, h1, h2, (hg.block Bx (Array.getElem?_eq_some_iff.1 h3).1 (fun e => ?_)).trans h3, h4⟩
        obtain ⟨_, o, ho, hc⟩ := hrow Bx e.symm
        rw [h3] at ho; cases ho; cases hc
      case assign =>
        rintro l pre x Wr Kk ⟨⟨⟨hi, hB⟩, hle⟩, hpre⟩ hK
        subst hA0
        unfold Stp.Stp.val at hK ⊢
        have hlt := hi.lt
        gi_wp2
        refine hK _ _ ((KeepsOthers.alloc _ _).from _) (KeepC.below ((Below.refl _ _).alloc (Nat.le_refl _) _)) ⟨⟨⟨hi.alloc _, hB.alloc (by have := hB.size; omega) _⟩, by simp; omega⟩, hpre⟩ ⟨Wr.heap.size, by omega, by omega, heap_alloc_new Wr _, ?_⟩
        simp only [List.setIfInBounds_toArray, List.set_cons_succ, List.set_cons_zero]
      case body =>
        rintro l pre x a' Wr hl ⟨r, hrl⟩ ⟨⟨⟨hi, hB⟩, hle⟩, hpre⟩ ⟨Bx, hx1, hx2, hx3, rfl⟩ hlt
        subst hA0
        have hx := HX.out.1.new hB
        obtain ⟨y, hy⟩ : ∃ y, (stepsL p)[pre.length]? = some y := ⟨_, List.getElem?_eq_getElem hlt⟩
        obtain ⟨m, hm⟩ : ∃ m, m = pre.length := ⟨_, rfl⟩
        rw [← hm] at hi hy hlt
        have hNl := HK.out.2.2.2.2.2.1
        have hNb : N ≤ 700000 := by
          have h1 := stepsTo_le p HK.out.2.1.b p.places HK.out.2.1.places.2
          have h2 := HK.out.2.1.places.2
          unfold stepsL at hNl
          omega
        obtain ⟨g, o, cap, hge, -, -, hra⟩ := hx.want.holds (by omega)
        injection hge with he1 he2 he3
        subst he1
        have hyk := step_at hra (k := m) (by omega)
        rw [(List.getElem?_eq_some_iff.1 hy).2] at hyk
        have hcn := hi.cell
        have hfn := hi.frozen
        have i1 : (m : Int) < (N : Int) := by omega
        have i2 : (m : Int) ≤ 700000 := by omega
        have i3 : ¬ N ≤ m := by omega
        have i4 : decide (N ≤ m) = false := decide_eq_false i3
        have i5 : decide ((N : Int) ≤ (m : Int)) = false := decide_eq_false (by omega)
        have heq := fun w => neq_rstep w x y
        have hplain := fun w => plain_any w x
        have hdr : Below Wr.heap.size Wr Wr.drew := ⟨rfl, rfl, rfl, Nat.le_refl _, fun _ _ => rfl⟩
        have HB := Lib.hid (And.intro hx (And.intro hyk (And.intro hx3 (And.intro hi (And.intro hB (And.intro hle (And.intro hpre (And.intro hm (And.intro hy (And.intro hdr hplain))))))))))
        clear hB hle hpre hm hra he2 he3 hNl hi hplain hNb
        simp only [List.setIfInBounds_toArray, List.set_cons_succ, List.set_cons_zero]
        gi_wp2
        refine wpIn_round_plan (fun w' => Below Wr.heap.size Wr w') (Plan.ofList [0, 1, 2, 3, 4, 5, 7, 8, 9, 10, 6, 11, 12] .nil) (by kernel_rfl) (by kernel_rfl) (by kernel_rfl) (by kernel_rfl) hdr ?_
        intro I hNI FF hFF
        have hgx := fun j => hx.new (hFF j)
        have esk : ∀ j, (FF j).cell? ⟨SK, 0, none⟩ = some (.slice (some ⟨g, o, none⟩) N c7) := fun j => (hgx j).skc
        have en : ∀ j, (FF j).cell? ⟨NB, 0, none⟩ = some (.int .i64 (m : Int)) := fun j => ((hFF j).cell (block_lt_of_cell hcn)).trans hcn
        have G1 : ∀ j, (FF j).rangeAt Bx 0 x.cells := fun j => rangeAt_whole (((hFF j).block _ (Array.getElem?_eq_some_iff.1 hx3).1).trans hx3)
        have G2 : ∀ j, (FF j).rangeAt g (o + m * 5) y.cells := fun j => rangeAt_block hyk ((hFF j).block _ (block_lt_of_cell (hyk 0 _ rfl)))
        have HG := Lib.hid (And.intro G1 (And.intro G2 hdr))
        clear hFF G1 G2 hgx hx hyk hx3 hdr
        simp only [Plan.ofList, Plan.lay, List.getElem?_cons_succ, List.getElem?_cons_zero]
        iterate 2 (refine plan_take rfl ?_; go_big_quiet_step (fail); refine wpQuiet_nil ?_)
        refine plan_step rfl ?_
        go_wp2_with fail
        refine ⟨rfl, HG.out.2.2, ?_⟩
        iterate 2 (refine plan_take rfl ?_; go_big_quiet_step (fail); refine wpQuiet_nil ?_)
        refine plan_take rfl ?_
        refine wpQuiet_load_mid_w (by kernel_rfl) 69 (.tmp 12) rfl Bx 0 rfl x.cells _ (by rintro _ ⟨j, rfl⟩; exact HG.out.1 j) Try.underlying69 rfl step_size ?_
        simp only [Act.put, List.setIfInBounds_toArray, List.set_cons_succ, List.set_cons_zero]
        refine wpQuiet_nil ?_
        iterate 3 (refine plan_take rfl ?_; go_big_quiet_step (fail); refine wpQuiet_nil ?_)
        refine plan_take rfl ?_
        refine wpQuiet_load_mid_w (by kernel_rfl) 88 (.tmp 85) rfl g (o + m * 5) rfl y.cells _ (by rintro _ ⟨j, rfl⟩; exact HG.out.2.1 j) Try.underlying88 rfl rstep_size ?_
        simp only [Act.put, List.setIfInBounds_toArray, List.set_cons_succ, List.set_cons_zero]
        refine wpQuiet_nil ?_
        refine plan_step rfl ?_
        go_wp2_with (go_at_call 36; (refine Calls.mono (HB.out.2.2.2.2.2.2.2.2.2.2 _) ?_); rintro e w10 ⟨rfl, hb10⟩; have H10 := Lib.hid (HG.out.2.2.trans hb10); clear hb10)
        refine ⟨rfl, H10.out, ?_⟩
        obtain ⟨bb, hbb⟩ : ∃ bb, bb = decide (x ≠ y) := ⟨_, rfl⟩
        simp only [← hbb] at heq
        have HBB := Lib.hid hbb
        clear hbb
        iterate 2 (refine plan_take rfl ?_; go_big_quiet_step (fail); refine wpQuiet_nil ?_)
        refine plan_nil ?_
        have hx10 := HB.out.1.new H10.out
        have hcn10 := (H10.out.cell (block_lt_of_cell hcn)).trans hcn
        have hi10 : Boxed w10 NB 3 (.int .i64 (m : Int)) := (H10.out.block _ (Array.getElem?_eq_some_iff.1 HB.out.2.2.2.1).1).trans HB.out.2.2.2.1
        cases bb with
        | true =>
          have hne : x ≠ y := of_decide_eq_true HBB.out.symm
          obtain ⟨cR, fR, -, -⟩ := HF.out w10 hx10.below
          have hko := others_below H10.out
          have HE := Lib.hid (And.intro hne hko)
          clear hne hko hx10 hcn10 hi10 heq esk en
          gi_wp2
          refine ⟨(HE.out.2.trans (KeepsOthers.setCell _ _ _)).from _, rfl, fun hp => HE.out.1 (prefix_at hp (by rw [← HB.out.2.2.2.2.2.2.2.1]; exact HB.out.2.2.2.2.2.2.2.2.1))⟩
        | false =>
          have hxy : x = y := by
            refine Classical.byContradiction fun hne => ?_
            have hbb := HBB.out
            rw [decide_eq_true hne] at hbb
            cases hbb
          subst hxy
          have hi10c := hi10.cell
          have hfn10 := hi10.frozen
          have hsx10 := (H10.out.block _ (Array.getElem?_eq_some_iff.1 HB.out.2.2.1).1).trans HB.out.2.2.1
          have H12 := Lib.hid (And.intro hx10 (And.intro hi10 hsx10))
          clear hx10 hi10 hsx10 heq esk en hcn10 hcn hfn
          gi_wp2
          have hdr : Below w10.heap.size w10 w10.drew := ⟨rfl, rfl, rfl, Nat.le_refl _, fun _ _ => rfl⟩
          obtain ⟨at_, hat, hsm⟩ := mem_steps (List.mem_of_getElem? HB.out.2.2.2.2.2.2.2.2.1)
          have hat64 : at_ ≤ 64 := by have := HK.out.2.1.places.2; omega
          have hsok := ok_place HK.out.2.1.b hat64 hsm
          have hrd := fun w => reads_any w p ctx Kp hok9 at_ hat x hsm
          have hwr := fun w => writes_any w p ctx Kp hok9 at_ hat x hsm
          have hrrd := fun w => rreads_any w p HK.out.2.1 at_ x hsok hat64
          have hrwr := fun w => rwrites_any w p HK.out.2.1 at_ x hsok hat64
          obtain ⟨RL, hRL⟩ : ∃ RL, RL = readsL p.places x := ⟨_, rfl⟩
          obtain ⟨WV, hWV⟩ : ∃ WV, WV = writesV p.places x := ⟨_, rfl⟩
          have hRLb : RL.length ≤ 1000000 := by
            rw [hRL]
            exact readsL_bound _ hsok hat64
          have hend : ∀ wz, Below w10.heap.size w10 wz → (wz.cell? ⟨NB, 0, none⟩ = some (.int .i64 (m : Int)) ∧ wz.frozen? ⟨NB, 0, none⟩ = false) ∧ KeepsFrom wn.heap.size Wr (wz.setCell ⟨NB, 0, none⟩ (.int .i64 ((m : Int) + 1))) ∧ KeepC (· = NB) Wr (wz.setCell ⟨NB, 0, none⟩ (.int .i64 ((m : Int) + 1))) ∧ (((Boxed (wz.setCell ⟨NB, 0, none⟩ (.int .i64 ((m : Int) + 1))) NB 3 (.int .i64 (((pre ++ [x]).length : Nat) : Int)) ∧ Below wc.heap.size wc (wz.setCell ⟨NB, 0, none⟩ (.int .i64 ((m : Int) + 1)))) ∧ wn.heap.size ≤ (wz.setCell ⟨NB, 0, none⟩ (.int .i64 ((m : Int) + 1))).heap.size) ∧ pre ++ [x] <+: stepsL p) := fun wz hbz => by
            have hbx : Boxed wz NB 3 (.int .i64 (m : Int)) := (hbz.block _ (Array.getElem?_eq_some_iff.1 H12.out.2.1).1).trans H12.out.2.1
            have hWz : Below Wr.heap.size Wr wz := below_chain H10.out hbz
            have hml := HB.out.2.2.2.2.2.2.2.1
            have hcz := HB.out.2.2.2.2.1
            have hNBc := HN.out.2.2.2.1
            refine ⟨⟨hbx.cell, hbx.frozen⟩, ((others_below hWz).trans (KeepsOthers.setCell _ _ _)).from _, (KeepC.below hWz).setCell (T := (· = NB)) (p := ⟨NB, 0, none⟩) rfl _, ⟨⟨⟨?_, (below_chain hcz hWz).setCell (p := ⟨NB, 0, none⟩) (by simp; omega) _⟩, ?_⟩, ?_⟩⟩
            · have h1 := hbx.set (.int .i64 ((m : Int) + 1))
              rw [List.length_append, ← hml]
              exact h1
            · have h1 := HB.out.2.2.2.2.2.1
              have h2 := hWz.size
              simp [World.setCell]
              omega
            · exact prefix_next HB.out.2.2.2.2.2.2.1 (by rw [← hml]; exact HB.out.2.2.2.2.2.2.2.2.1)
          have HEND := Lib.hid hend
          clear hend
          rw [← hRL] at hrd hrrd
          rw [← hWV] at hwr hrwr
          clear hRL hWV
          have HC2 := Lib.hid (And.intro hrd (And.intro hrrd (And.intro hwr (And.intro hrwr (And.intro hdr hRLb)))))
          have hx10 := H12.out.1
          have hsx10 := H12.out.2.2
          have hyk10 := rangeAt_block HB.out.2.1 (H10.out.block _ (block_lt_of_cell (HB.out.2.1 0 _ rfl)))
          clear hrd hrrd hwr hrwr hRLb hat hsm hsok hat64
          have hSQ : ∀ (I : Type) (F : I → World), (∀ j, Below w10.heap.size w10 (F j)) → (∀ j, (F j).rangeAt PB 0 (planC p ctx Kp)) ∧ (∀ j, (F j).rangeAt RB 0 (refC p)) ∧ (∀ j, (F j).rangeAt Bx 0 x.cells) ∧ (∀ j, (F j).rangeAt g (o + m * 5) x.cells) ∧ (∀ j, (F j).cell? ⟨SK, 0, none⟩ = some (.slice (some ⟨g, o, none⟩) N c7)) ∧ (∀ j, (F j).cell? ⟨NB, 0, none⟩ = some (.int .i64 (m : Int))) := fun I F hF =>
            ⟨fun j => rangeAt_whole (hx10.new (hF j)).pl, fun j => rangeAt_whole (hx10.new (hF j)).rf, fun j => rangeAt_whole (((hF j).block _ (Array.getElem?_eq_some_iff.1 hsx10).1).trans hsx10), fun j => rangeAt_block hyk10 ((hF j).block _ (block_lt_of_cell (hyk10 0 _ rfl))), fun j => (hx10.new (hF j)).skc, fun j => ((hF j).cell (block_lt_of_cell hi10c)).trans hi10c⟩
          have HSQ := Lib.hid hSQ
          clear hSQ hx10 hsx10 hyk10 hi10c
          refine wpIn_round_plan (fun w' => Below w10.heap.size w10 w') (Plan.ofList [0, 1, 2, 3, 4, 5, 7, 8, 9, 10, 11, 6, 12, 13, 14, 15, 16, 17, 19, 20, 21, 22, 23, 18, 24, 25, 26, 27] .nil) (by kernel_rfl) (by kernel_rfl) (by kernel_rfl) (by kernel_rfl) hdr ?_
          intro I2 hNI2 F2 hF2
          obtain ⟨G1, G2, G3, G4, esk, en⟩ := HSQ.out I2 F2 hF2
          have HG2 := Lib.hid (And.intro G1 (And.intro G2 (And.intro G3 G4)))
          clear hF2 G1 G2 G3 G4 hdr
          simp only [Plan.ofList, Plan.lay, List.getElem?_cons_succ, List.getElem?_cons_zero]
          by_cases hr0 : (m : Int) % 5 = 0
          · have hr1 : ((m : Int) % 5 == 0) = true := by simpa using hr0
            iterate 4 (refine plan_take rfl ?_; go_big_quiet_step (fail); refine wpQuiet_nil ?_)
            refine plan_take rfl ?_
            refine wpQuiet_load_mid_w (by kernel_rfl) 62 (.tmp 6) rfl PB 0 rfl (planC p ctx Kp) _ (by rintro _ ⟨j, rfl⟩; exact HG2.out.1 j) Try.underlying62 rfl plan_size ?_
            simp only [Act.put, List.setIfInBounds_toArray, List.set_cons_succ, List.set_cons_zero]
            refine wpQuiet_nil ?_
            refine plan_take rfl ?_
            refine wpQuiet_load_mid_w (by kernel_rfl) 69 (.tmp 12) rfl Bx 0 rfl x.cells _ (by rintro _ ⟨j, rfl⟩; exact HG2.out.2.2.1 j) Try.underlying69 rfl step_size ?_
            simp only [Act.put, List.setIfInBounds_toArray, List.set_cons_succ, List.set_cons_zero]
            refine wpQuiet_nil ?_
            refine plan_take rfl ?_
            refine wpQuiet_load_mid_w (by kernel_rfl) 84 (.tmp 8) rfl RB 0 rfl (refC p) _ (by rintro _ ⟨j, rfl⟩; exact HG2.out.2.1 j) Try.underlying84 rfl ref_size ?_
            simp only [Act.put, List.setIfInBounds_toArray, List.set_cons_succ, List.set_cons_zero]
            refine wpQuiet_nil ?_
            iterate 3 (refine plan_take rfl ?_; go_big_quiet_step (fail); refine wpQuiet_nil ?_)
            refine plan_take rfl ?_
            refine wpQuiet_load_mid_w (by kernel_rfl) 88 (.tmp 99) rfl g (o + m * 5) rfl x.cells _ (by rintro _ ⟨j, rfl⟩; exact HG2.out.2.2.2 j) Try.underlying88 rfl rstep_size ?_
            simp only [Act.put, List.setIfInBounds_toArray, List.set_cons_succ, List.set_cons_zero]
            refine wpQuiet_nil ?_
            refine plan_step rfl ?_
            go_wp2_with (go_at_call 37; (refine Calls.mono (HC2.out.1 _) ?_); rintro e w20 ⟨A20, n20, c20, rfl, hn20, hi20, hb20⟩; have hbz20 := below_chain HC2.out.2.2.2.2.1 hb20; have H20 := Lib.hid (And.intro hbz20 (And.intro hi20 hn20)); clear hbz20 hi20 hn20; clear hb20)
            refine ⟨rfl, H20.out.1, ?_⟩
            refine plan_step rfl ?_
            go_wp2_with (go_at_call 38; (refine Calls.mono (HC2.out.2.1 _) ?_); rintro e w21 ⟨A21, n21, c21, rfl, hn21, hi21, hb21⟩; have hbz21 := below_chain H20.out.1 hb21; have hint := ints_any w21 _ _ RL RL (H20.out.2.1.new hb21) hi21 HC2.out.2.2.2.2.2; have H21 := Lib.hid (And.intro hbz21 (hint.mono (fun e w' hh => (⟨hh.1.trans (by simp), hh.2⟩ : e = .returned (.bool true) ∧ Below w21.heap.size w21 w')))); clear hbz21 hi21 hn21 hint; clear hb21)
            refine ⟨rfl, H21.out.1, ?_⟩
            refine plan_step rfl ?_
            go_wp2_with (go_at_call 23; (refine Calls.mono (H21.out.2) ?_); rintro e w22 ⟨rfl, hb22⟩; have hbz22 := below_chain H21.out.1 hb22; have H22 := Lib.hid (And.intro hbz22 trivial); clear hbz22; clear hb22)
            refine ⟨rfl, H22.out.1, ?_⟩
            iterate 2 (refine plan_take rfl ?_; go_big_quiet_step (fail); refine wpQuiet_nil ?_)
            refine plan_take rfl ?_
            refine wpQuiet_load_mid_w (by kernel_rfl) 62 (.tmp 6) rfl PB 0 rfl (planC p ctx Kp) _ (by rintro _ ⟨j, rfl⟩; exact HG2.out.1 j) Try.underlying62 rfl plan_size ?_
            simp only [Act.put, List.setIfInBounds_toArray, List.set_cons_succ, List.set_cons_zero]
            refine wpQuiet_nil ?_
            refine plan_take rfl ?_
            refine wpQuiet_load_mid_w (by kernel_rfl) 69 (.tmp 12) rfl Bx 0 rfl x.cells _ (by rintro _ ⟨j, rfl⟩; exact HG2.out.2.2.1 j) Try.underlying69 rfl step_size ?_
            simp only [Act.put, List.setIfInBounds_toArray, List.set_cons_succ, List.set_cons_zero]
            refine wpQuiet_nil ?_
            refine plan_take rfl ?_
            refine wpQuiet_load_mid_w (by kernel_rfl) 84 (.tmp 8) rfl RB 0 rfl (refC p) _ (by rintro _ ⟨j, rfl⟩; exact HG2.out.2.1 j) Try.underlying84 rfl ref_size ?_
            simp only [Act.put, List.setIfInBounds_toArray, List.set_cons_succ, List.set_cons_zero]
            refine wpQuiet_nil ?_
            iterate 3 (refine plan_take rfl ?_; go_big_quiet_step (fail); refine wpQuiet_nil ?_)
            refine plan_take rfl ?_
            refine wpQuiet_load_mid_w (by kernel_rfl) 88 (.tmp 111) rfl g (o + m * 5) rfl x.cells _ (by rintro _ ⟨j, rfl⟩; exact HG2.out.2.2.2 j) Try.underlying88 rfl rstep_size ?_
            simp only [Act.put, List.setIfInBounds_toArray, List.set_cons_succ, List.set_cons_zero]
            refine wpQuiet_nil ?_
            refine plan_step rfl ?_
            go_wp2_with (go_at_call 39; (refine Calls.mono (HC2.out.2.2.1 _) ?_); rintro e w23 ⟨rfl, hb23⟩; have hbz23 := below_chain H22.out.1 hb23; have H23 := Lib.hid (And.intro hbz23 trivial); clear hbz23; clear hb23)
            refine ⟨rfl, H23.out.1, ?_⟩
            refine plan_step rfl ?_
            go_wp2_with (go_at_call 40; (refine Calls.mono (HC2.out.2.2.2.1 _) ?_); rintro e w24 ⟨rfl, hb24⟩; have hbz24 := below_chain H23.out.1 hb24; have H24 := Lib.hid (And.intro hbz24 trivial); clear hbz24; clear hb24)
            refine ⟨rfl, H24.out.1, ?_⟩
            iterate 3 (refine plan_take rfl ?_; go_big_quiet_step (fail); refine wpQuiet_nil ?_)
            refine plan_nil ?_
            obtain ⟨⟨z1, z2⟩, z3⟩ := HEND.out _ H24.out.1
            have HZ := Lib.hid z3
            clear z3
            gi_wp2
            exact ⟨HZ.out.1, HZ.out.2.1, HZ.out.2.2⟩
          · have hr1 : ((m : Int) % 5 == 0) = false := by simpa using hr0
            iterate 11 (refine plan_take rfl ?_; go_big_quiet_step (fail); refine wpQuiet_nil ?_)
            refine plan_step rfl ?_
            go_wp2_with fail
            refine ⟨rfl, HC2.out.2.2.2.2.1, ?_⟩
            refine plan_step rfl ?_
            go_wp2_with fail
            refine ⟨rfl, HC2.out.2.2.2.2.1, ?_⟩
            refine plan_step rfl ?_
            go_wp2_with fail
            refine ⟨rfl, HC2.out.2.2.2.2.1, ?_⟩
            iterate 9 (refine plan_take rfl ?_; go_big_quiet_step (fail); refine wpQuiet_nil ?_)
            refine plan_step rfl ?_
            go_wp2_with fail
            refine ⟨rfl, HC2.out.2.2.2.2.1, ?_⟩
            refine plan_step rfl ?_
            go_wp2_with fail
            refine ⟨rfl, HC2.out.2.2.2.2.1, ?_⟩
            iterate 3 (refine plan_take rfl ?_; go_big_quiet_step (fail); refine wpQuiet_nil ?_)
            refine plan_nil ?_
            obtain ⟨⟨z1, z2⟩, z3⟩ := HEND.out _ HC2.out.2.2.2.2.1
            have HZ := Lib.hid z3
            clear z3
            gi_wp2
            exact ⟨HZ.out.1, HZ.out.2.1, HZ.out.2.2⟩
      case done =>
        rintro D ys Wr hD rfl ⟨⟨⟨hi, hB⟩, hle⟩, hpre⟩ hK
        subst hA0
        have hNl := HK.out.2.2.2.2.2.1
        rw [← hNl] at hi
        have hx := HX.out.1.new hB
        obtain ⟨⟨b1, b2, b3, b4, b5⟩, -, -⟩ := hok9.facts
        have hcb := cellsN_bound b4 HK.out.2.1.places.2
        have hNb : N ≤ 700000 := by
          have h1 := stepsTo_le p HK.out.2.1.b p.places HK.out.2.1.places.2
          have h2 := HK.out.2.1.places.2
          unfold stepsL at hNl
          omega
        have hce := fun w => cells_any w p ctx Kp hok9
        obtain ⟨C, hC⟩ : ∃ C, C = cellsN p := ⟨_, rfl⟩
        rw [← hC] at hce hcb
        have HD := Lib.hid (And.intro hx (And.intro hi (And.intro hK (And.intro hD hB))))
        have HC3 := Lib.hid (And.intro hce hok9)
        clear hx hi hK hD hB hle hpre hNl b1 b2 b3 b4 b5 hce hC hok9
        go_wp2_with fail
        go_loopw [13] (fun v13 wr => ∃ iv : Int, -1 ≤ iv ∧ iv ≤ (C : Int) + 1 ∧ v13 = .int .i64 iv ∧ Hid (Below Wr.heap.size Wr wr)) (fun v13 _ => ((C : Int) + 1 - intOf v13).toNat)
        case atStart => exact ⟨-1, by omega, by omega, rfl, Lib.hid (Below.refl _ _)⟩
        case round =>
          obtain ⟨iv, hiv1, hiv2, rfl, hI⟩ := hrel
          have hx := HD.out.1.new hI.out
          by_cases hlc : iv ≤ (C : Int)
          · have hpl := hx.pl
            go_upto_region 20 with (first | (refine wpList_load_mid rfl 62 (.tmp 6) rfl PB 0 rfl (planC p ctx Kp) _ (rangeAt_whole (hx.pl)) Try.underlying62 rfl plan_size ?_; simp only [Act.put, List.setIfInBounds_toArray, List.set_cons_succ, List.set_cons_zero]) | (go_at_call 29; (with_reducible refine Calls.mono (HC3.out.1 _) ?_); rintro e w20 ⟨rfl, hb20⟩; have H20 := Lib.hid (below_chain hI.out hb20); clear hb20))
            have hx20 := HD.out.1.new H20.out
            have hsz := fun w => size_any w p ctx Kp HC3.out.2 iv
            have hrz := fun w => rsize_any w p HK.out.2.1 iv
            obtain ⟨SV, hSV⟩ : ∃ SV, SV = sizeV p iv := ⟨_, rfl⟩
            rw [← hSV] at hsz hrz
            have hd : Below w20.heap.size w20 w20.drew := ⟨rfl, rfl, rfl, Nat.le_refl _, fun _ _ => rfl⟩
            have HS := Lib.hid (And.intro hsz (And.intro hrz hd))
            clear hsz hrz hSV hpl
            refine wp_region_plan (fun w' => Below w20.heap.size w20 w') (Plan.ofList [0, 1, 3, 4, 2, 5, 6] .nil) (by kernel_rfl) (by kernel_rfl) (by kernel_rfl) hd ?_
            intro I hNI FF hFF
            have G1 : ∀ j, (FF j).rangeAt PB 0 (planC p ctx Kp) := fun j => rangeAt_whole (hx20.new (hFF j)).pl
            have G2 : ∀ j, (FF j).rangeAt RB 0 (refC p) := fun j => rangeAt_whole (hx20.new (hFF j)).rf
            have HG := Lib.hid (And.intro G1 G2)
            clear hFF G1 G2 hd hx20
            simp only [Plan.ofList, Plan.lay, List.getElem?_cons_succ, List.getElem?_cons_zero]
            refine plan_take rfl ?_
            refine wpQuiet_load_mid rfl 62 (.tmp 6) rfl PB 0 rfl (planC p ctx Kp) _ (by rintro _ ⟨j, rfl⟩; exact HG.out.1 j) Try.underlying62 rfl plan_size ?_
            simp only [Act.put, List.setIfInBounds_toArray, List.set_cons_succ, List.set_cons_zero]
            refine wpQuiet_nil ?_
            iterate 1 (refine plan_take rfl ?_; go_big_quiet_step (fail); refine wpQuiet_nil ?_)
            refine plan_take rfl ?_
            refine wpQuiet_load_mid rfl 84 (.tmp 8) rfl RB 0 rfl (refC p) _ (by rintro _ ⟨j, rfl⟩; exact HG.out.2 j) Try.underlying84 rfl ref_size ?_
            simp only [Act.put, List.setIfInBounds_toArray, List.set_cons_succ, List.set_cons_zero]
            refine wpQuiet_nil ?_
            iterate 1 (refine plan_take rfl ?_; go_big_quiet_step (fail); refine wpQuiet_nil ?_)
            refine plan_step rfl ?_
            go_wp2_with (go_at_call 31; (with_reducible refine Calls.mono (HS.out.1 _) ?_); rintro e w21 ⟨rfl, hb21⟩; have H21 := Lib.hid (below_chain HS.out.2.2 hb21); clear hb21)
            refine ⟨rfl, H21.out, ?_⟩
            refine plan_step rfl ?_
            go_wp2_with (go_at_call 41; (with_reducible refine Calls.mono (HS.out.2.1 _) ?_); rintro e w22 ⟨rfl, hb22⟩; have H22 := Lib.hid (below_chain H21.out hb22); clear hb22)
            refine ⟨rfl, H22.out, ?_⟩
            iterate 1 (refine plan_take rfl ?_; go_big_quiet_step (fail); refine wpQuiet_nil ?_)
            refine plan_nil ?_
            go_wp2_with fail
            go_roundw
            case rel => exact ⟨iv + 1, by omega, by omega, by go_num, Lib.hid (below_chain H20.out H22.out)⟩
            case measure => simp [intOf]; omega
          · have hlc2 : (C : Int) < iv := by omega
            go_upto_region 22 with (first | (refine wpList_load_mid rfl 62 (.tmp 6) rfl PB 0 rfl (planC p ctx Kp) _ (rangeAt_whole (hx.pl)) Try.underlying62 rfl plan_size ?_; simp only [Act.put, List.setIfInBounds_toArray, List.set_cons_succ, List.set_cons_zero]) | (go_at_call 29; (with_reducible refine Calls.mono (HC3.out.1 _) ?_); rintro e w20 ⟨rfl, hb20⟩; have H20 := Lib.hid (below_chain hI.out hb20); clear hb20))
            have hstp := fun w (i : Int) (hi : i ≤ 1000000) => step_any w p ctx Kp HC3.out.2 i hi
            have hNl := HK.out.2.2.2.2.2.1
            have hzA : ∀ i : Int, (i < 0 ∨ (N : Int) ≤ i) → stepR p i = (zeroS, 10) := fun i h => by
              unfold stepR
              by_cases h0 : i < 0
              · rw [if_pos h0]
              · rw [if_neg h0]
                have h1 : (stepsL p)[i.toNat]? = none := by rw [List.getElem?_eq_none_iff]; omega
                rw [h1]
            have hzB : ∀ i : Int, 0 ≤ i → i < (N : Int) → ∃ s, (stepsL p)[i.toNat]? = some s ∧ stepR p i = (s, 0) := fun i h0 h1 => by
              have h2 : i.toNat < (stepsL p).length := by omega
              refine ⟨(stepsL p)[i.toNat], List.getElem?_eq_getElem h2, ?_⟩
              unfold stepR
              rw [if_neg (by omega), List.getElem?_eq_getElem h2]
            have HSt := Lib.hid (And.intro hstp (And.intro hzA (And.intro hzB hNl)))
            clear hstp hzA hzB hNl hx hI hcb hlc hlc2 hiv1 hiv2
            go_wp2_with fail
            go_loopw [14] (fun v14 wr => ∃ iv : Int, -1 ≤ iv ∧ iv ≤ (N : Int) + 7 ∧ v14 = .int .i64 iv ∧ Hid (Below Wr.heap.size Wr wr)) (fun v14 _ => ((N : Int) + 7 - intOf v14).toNat)
            case atStart => exact ⟨-1, by omega, by omega, rfl, H20⟩
            case round =>
              obtain ⟨iv, hiv1, hiv2, rfl, hI⟩ := hrel
              have hx := HD.out.1.new hI.out
              have esk := hx.skc
              by_cases hlc : iv ≤ (N : Int)
              · by_cases hA : iv < 0 ∨ (N : Int) ≤ iv
                · have hcall : Calls Try.prog 27 #[.agg (planC p ctx Kp).toArray, .int .i64 iv] wr fun e w' => e = .returned (.tuple #[.agg #[.int .i64 0, .int .i64 0, .int .i64 0, .int .i64 0, .int .i64 0], .int .i64 10]) ∧ Below wr.heap.size wr w' := by
                    have h1 := HSt.out.1 wr iv (by omega)
                    rw [HSt.out.2.1 iv hA] at h1
                    exact h1
                  have HCl := Lib.hid hcall
                  clear hcall
                  go_upto_region 26 with (first | (refine wpList_load_mid rfl 62 (.tmp 6) rfl PB 0 rfl (planC p ctx Kp) _ (rangeAt_whole (hx.pl)) Try.underlying62 rfl plan_size ?_; simp only [Act.put, List.setIfInBounds_toArray, List.set_cons_succ, List.set_cons_zero]) | (go_at_call 27; (with_reducible refine Calls.mono HCl.out ?_); rintro e w21 ⟨rfl, hb21⟩; have H21 := Lib.hid (below_chain hI.out hb21); clear hb21 esk))
                  obtain ⟨w22, hw22⟩ : ∃ w22, w22 = w21.alloc (.cells #[.int .i64 0, .int .i64 0, .int .i64 0, .int .i64 0, .int .i64 0] 69) := ⟨_, rfl⟩
                  rw [← hw22]
                  have hb22 : Below Wr.heap.size Wr w22 := by rw [hw22]; exact H21.out.alloc H21.out.size _
                  have hst22 : w22.heap[w21.heap.size]? = some (.cells zeroS.cells.toArray 69 (0, 0)) := by rw [hw22]; exact heap_alloc_new w21 _
                  obtain ⟨e0, e1, e2, e3, e4⟩ : w22.cell? ⟨w21.heap.size, 0, none⟩ = some (.int .i64 0) ∧ w22.cell? ⟨w21.heap.size, 1, none⟩ = some (.int .i64 0) ∧ w22.cell? ⟨w21.heap.size, 2, none⟩ = some (.int .i64 0) ∧ w22.cell? ⟨w21.heap.size, 3, none⟩ = some (.int .i64 0) ∧ w22.cell? ⟨w21.heap.size, 4, none⟩ = some (.int .i64 0) := results_step hst22
                  have esk2 := (HD.out.1.new hb22).skc
                  have H22 := Lib.hid hb22
                  clear hb22 hst22 hw22 hx
                  by_cases hneg : iv < 0
                  · go_wp2_with fail
                    go_roundw
                    case rel => exact ⟨iv + 7, by omega, by omega, by go_num, H22⟩
                    case measure => simp [intOf]; omega
                  · have hge : (N : Int) ≤ iv := by omega
                    go_wp2_with fail
                    go_roundw
                    case rel => exact ⟨iv + 7, by omega, by omega, by go_num, H22⟩
                    case measure => simp [intOf]; omega
                · have hB1 : 0 ≤ iv := by omega
                  have hB2 : iv < (N : Int) := by omega
                  obtain ⟨s, hs1, hs2⟩ := HSt.out.2.2.1 iv hB1 hB2
                  obtain ⟨k, rfl⟩ := Int.eq_ofNat_of_zero_le hB1
                  rw [Int.toNat_natCast] at hs1
                  have hcall : Calls Try.prog 27 #[.agg (planC p ctx Kp).toArray, .int .i64 (k : Int)] wr fun e w' => e = .returned (.tuple #[.agg s.cells.toArray, .int .i64 0]) ∧ Below wr.heap.size wr w' := by
                    have h1 := HSt.out.1 wr (k : Int) (by omega)
                    rw [hs2] at h1
                    exact h1
                  have HCl := Lib.hid (And.intro hcall hs1)
                  clear hcall hs1 hs2
                  go_upto_region 26 with (first | (refine wpList_load_mid rfl 62 (.tmp 6) rfl PB 0 rfl (planC p ctx Kp) _ (rangeAt_whole (hx.pl)) Try.underlying62 rfl plan_size ?_; simp only [Act.put, List.setIfInBounds_toArray, List.set_cons_succ, List.set_cons_zero]) | (go_at_call 27; (with_reducible refine Calls.mono HCl.out.1 ?_); rintro e w21 ⟨rfl, hb21⟩; have H21 := Lib.hid (below_chain hI.out hb21); clear hb21 esk) | (refine wpList_store_row rfl 69 (.tmp 15) (.tmp 142) rfl w21.heap.size s.cells.toArray rfl rfl 69 zeroS.cells.toArray (heap_alloc_new w21 _) step_size rfl (all_oneCell_toArray (cells_one s)) ?_; simp only [Act.put, List.setIfInBounds_toArray, List.set_cons_succ, List.set_cons_zero]))
                  change Code.wp _ _ _ _ ((w21.alloc (.cells zeroS.cells.toArray 69)).setRow w21.heap.size s.cells.toArray)
                  obtain ⟨w22, hw22⟩ : ∃ w22, w22 = (w21.alloc (.cells zeroS.cells.toArray 69)).setRow w21.heap.size s.cells.toArray := ⟨_, rfl⟩
                  rw [← hw22]
                  have hb22 : Below Wr.heap.size Wr w22 := by rw [hw22]; exact Fil.below_setRow (H21.out.alloc H21.out.size _) _ _ H21.out.size
                  have hst22 : w22.heap[w21.heap.size]? = some (.cells s.cells.toArray 69 (0, 0)) := by rw [hw22]; exact setRow_heap _ _ _ _ _ _ (heap_alloc_new w21 _)
                  have hx22 := HD.out.1.new hb22
                  have esk2 := hx22.skc
                  obtain ⟨g, o, cap, hge, -, -, hra⟩ := hx22.want.holds (by omega)
                  injection hge with he1 he2 he3
                  subst he1
                  have hyk := step_at hra (k := k) (by have := HSt.out.2.2.2; omega)
                  rw [(List.getElem?_eq_some_iff.1 HCl.out.2).2] at hyk
                  have i1 : ¬ (k : Int) < 0 := by omega
                  have i2 : ¬ (N : Int) ≤ (k : Int) := by omega
                  have i3 : k < N := by omega
                  have i4 : (k : Int) ≤ 700000 := by omega
                  have heq : ∀ w, (binOp .neq 88 (.agg s.cells.toArray) (.agg s.cells.toArray)).run Try.prog w = .ok (.bool false) w := fun w => by rw [neq_rstep w s s]; simp
                  obtain ⟨SB, hSB⟩ : ∃ SB, SB = w21.heap.size := ⟨_, rfl⟩
                  rw [← hSB] at hst22 ⊢
                  have hd : Below w22.heap.size w22 w22.drew := ⟨rfl, rfl, rfl, Nat.le_refl _, fun _ _ => rfl⟩
                  have H22 := Lib.hid (And.intro hb22 (And.intro hst22 (And.intro hyk (And.intro hx22 (And.intro (fun w => plain_any w s) hd)))))
                  clear hb22 hst22 hw22 hx hyk hra hx22 he2 he3 hSB hA
                  go_upto_region 29 with fail
                  refine wp_region_plan (fun w' => Below w22.heap.size w22 w') (Plan.ofList [0, 2, 3, 4, 5, 1, 6, 7, 8, 9, 10] .nil) (by kernel_rfl) (by kernel_rfl) (by kernel_rfl) hd ?_
                  intro I hNI FF hFF
                  have G1 : ∀ j, (FF j).rangeAt SB 0 s.cells := fun j => rangeAt_whole (((hFF j).block _ (Array.getElem?_eq_some_iff.1 H22.out.2.1).1).trans H22.out.2.1)
                  have G2 : ∀ j, (FF j).rangeAt g (o + k * 5) s.cells := fun j => rangeAt_block H22.out.2.2.1 ((hFF j).block _ (block_lt_of_cell (H22.out.2.2.1 0 _ rfl)))
                  have esk3 : ∀ j, (FF j).cell? ⟨SK, 0, none⟩ = some (.slice (some ⟨g, o, none⟩) N c7) := fun j => (H22.out.2.2.2.1.new (hFF j)).skc
                  have HG := Lib.hid (And.intro G1 G2)
                  clear hFF G1 G2 hd
                  simp only [Plan.ofList, Plan.lay, List.getElem?_cons_succ, List.getElem?_cons_zero]
                  refine plan_take rfl ?_
                  refine wpQuiet_load_mid rfl 69 (.tmp 15) rfl SB 0 rfl s.cells _ (by rintro _ ⟨j, rfl⟩; exact HG.out.1 j) Try.underlying69 rfl step_size ?_
                  simp only [Act.put, List.setIfInBounds_toArray, List.set_cons_succ, List.set_cons_zero]
                  refine wpQuiet_nil ?_
                  iterate 3 (refine plan_take rfl ?_; go_big_quiet_step (fail); refine wpQuiet_nil ?_)
                  refine plan_take rfl ?_
                  refine wpQuiet_load_mid rfl 88 (.tmp 163) rfl g (o + k * 5) rfl s.cells _ (by rintro _ ⟨j, rfl⟩; exact HG.out.2 j) Try.underlying88 rfl rstep_size ?_
                  simp only [Act.put, List.setIfInBounds_toArray, List.set_cons_succ, List.set_cons_zero]
                  refine wpQuiet_nil ?_
                  refine plan_step rfl ?_
                  go_wp2_with (go_at_call 36; (refine Calls.mono (H22.out.2.2.2.2.1 _) ?_); rintro e w23 ⟨rfl, hb23⟩; have H23 := Lib.hid (below_chain H22.out.2.2.2.2.2 hb23); clear hb23)
                  refine ⟨rfl, H23.out, ?_⟩
                  iterate 5 (refine plan_take rfl ?_; go_big_quiet_step (fail); refine wpQuiet_nil ?_)
                  refine plan_nil ?_
                  go_wp2_with fail
                  go_roundw
                  case rel => exact ⟨(k : Int) + 7, by omega, by omega, by go_num, Lib.hid (below_chain H22.out.1 H23.out)⟩
                  case measure => simp [intOf]; omega
              · have hgt : (N : Int) < iv := by omega
                have hcall : Calls Try.prog 27 #[.agg (planC p ctx Kp).toArray, .int .i64 (N : Int)] wr fun e w' => e = .returned (.tuple #[.agg #[.int .i64 0, .int .i64 0, .int .i64 0, .int .i64 0, .int .i64 0], .int .i64 10]) ∧ Below wr.heap.size wr w' := by
                  have h1 := HSt.out.1 wr (N : Int) (by omega)
                  rw [HSt.out.2.1 (N : Int) (.inr (by omega))] at h1
                  exact h1
                have HCl := Lib.hid hcall
                clear hcall
                go_upto_region 32 with (first | (refine wpList_load_mid rfl 62 (.tmp 6) rfl PB 0 rfl (planC p ctx Kp) _ (rangeAt_whole (hx.pl)) Try.underlying62 rfl plan_size ?_; simp only [Act.put, List.setIfInBounds_toArray, List.set_cons_succ, List.set_cons_zero]) | (go_at_call 27; (with_reducible refine Calls.mono HCl.out ?_); rintro e w21 ⟨rfl, hb21⟩; have H21 := Lib.hid (below_chain hI.out hb21); clear hb21 esk))
                obtain ⟨w22, hw22⟩ : ∃ w22, w22 = w21.alloc (.cells #[.int .i64 0, .int .i64 0, .int .i64 0, .int .i64 0, .int .i64 0] 69) := ⟨_, rfl⟩
                rw [← hw22]
                have hb22 : Below Wr.heap.size Wr w22 := by rw [hw22]; exact H21.out.alloc H21.out.size _
                have hx22 := HD.out.1.new hb22
                have esk2 := hx22.skc
                have hin22 : Boxed w22 NB 3 (.int .i64 (N : Int)) := (hb22.block _ (Array.getElem?_eq_some_iff.1 HD.out.2.1).1).trans HD.out.2.1
                have en2 := hin22.cell
                have H22 := Lib.hid (And.intro hb22 hx22)
                clear hb22 hx22 hin22 hw22 hx
                go_wp2_with (go_at_call 20; (with_reducible refine Calls.mono (Pln.awake_any _) ?_); rintro e wA ⟨rfl, hbA⟩; obtain ⟨cA, fA, gA, bA⟩ := HF.out wA (below_chain H22.out.2.below hbA); have HAW := Lib.hid (And.intro bA (And.intro gA (below_chain H22.out.1 hbA))); clear hbA bA gA)
                have hDlt : D < Wr.heap.size := (Array.getElem?_eq_some_iff.1 HD.out.2.2.1).1
                have hDn := HD.out.2.2.2.1
                have hRn : R < wn.heap.size := by
                  have h1 := H4.out.2.2.2.2
                  have h2 := (Array.getElem?_eq_some_iff.1 HX.out.1.pl).1
                  have h3 := HN.out.2.1.size
                  omega
                have hDs : (wA.setCell ⟨R, 0, none⟩ (.bool true)).heap[D]? = some (.deferred (some [])) := by
                  rw [Below.heap_setCell _ _ _ _ (by simp only; omega)]
                  exact (HAW.out.2.2.block D hDlt).trans HD.out.2.2.1
                refine ⟨by simp, .inl ⟨_, _, rfl, run_takeDeferred hDs, ?_⟩⟩
                have hbp := belowK_b (n₀ := wn.heap.size) (w := wn) (Nat.le_refl _) (wA.setCell ⟨R, 0, none⟩ (.bool true)) D _ (.deferred none) hDn hDs rfl rfl
                have gB := (hbp.cell (p := ⟨R, 0, none⟩) hRn).trans HAW.out.2.1
                have hWn : W.heap.size ≤ wn.heap.size := by
                  have h1 := HC.out.2.2.2.2.1
                  have h2 := HR.out
                  omega
                exact ⟨.bool true, by simp [results, Try.f6, go_sem, gB], rfl, HAW.out.1.trans (hbp.mono hWn)⟩
      case stop =>
        rintro D cc pre Wr _ hS ⟨-, h⟩ _
        exact absurd hS h
end Go.Proofs.Ytfhaebaegkpkhaa.Tl
