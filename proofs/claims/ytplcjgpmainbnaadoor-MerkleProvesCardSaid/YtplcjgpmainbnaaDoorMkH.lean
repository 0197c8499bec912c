/- merkle.prove. -/
import Derived.Test.YtplcjgpmainbnaaDoorMkF
import Derived.Test.YtplcjgpmainbnaaDoorMkG
import Derived.Test.YtplcjgpmainbnaaDoorQTail
set_option linter.unusedVariables false
set_option linter.unusedSimpArgs false
namespace Go.Proofs.YtplcjgpmainbnaaDoor.MkW
open Go.RowKit OwnS ShaW Go.Shelf SeqL QTail
attribute [local go_sem] Oper.semAt_some
attribute [local go_sem ↓] Kit.execOp_call_slot
attribute [local go_sem] Kit.callSlot_func
def proofN (i : Nat) (ds : List (List Nat)) : List (List Nat) := Mk.proof (Sha.sum [2]) (Mk.nodeH Sha.sum) i ds
def rootOf (ds : List (List Nat)) (p : Part) : List Nat := rootN ((ds.take p.2.1).drop p.1)
def ProofPost (W : World) (ds : List (List Nat)) (e : Ending) (w' : World) : Prop := ∃ A c, e = .returned (.tuple #[.slice A ds.length c, .int .i64 0]) ∧ OwnD w' W.heap.size (.slice A ds.length c) ds ∧ Below W.heap.size W w'
theorem owns_loose {w w' : World} {row : Option Nat} {base size n : Nat} {v : Value} {xs : List Value} (h : Owns w base size v n xs) (hg : w.grownBy w' row) (hr : ∀ r, row = some r → ∃ o : Obj, w.heap[r]? = some o ∧ o.isCells = false) : Owns w' base size v n xs := by
  refine ⟨h.1, ?_⟩
  rcases h.2 with h | ⟨g, o, cap, rfl, h1, h2, h3, h4, h5, h6⟩
  · exact .inl h
  · refine .inr ⟨g, o, cap, rfl, h1, Nat.lt_of_lt_of_le h2 hg.size, h3, h4, fun j u hj => cell_kept (h5 j u hj) hg hr, fun j hj => ?_⟩
    obtain ⟨p1, p2⟩ := h6 j hj
    obtain ⟨u, hu⟩ := Option.isSome_iff_exists.1 p1
    exact ⟨by rw [cell_kept hu hg hr]; rfl, by rw [frozen_kept hu hg hr]; exact p2⟩
/-- The block of what one owns holds cells. -/
theorem owns_cells {w : World} {base size n : Nat} {v : Value} {xs : List Value} (h : Owns w base size v n xs) (hs : 0 < size) (hv : n = 0 → v.ownBlock = none) : ∀ (j : Nat) (o : Obj), v.ownBlock = some j → w.heap[j]? = some o → o.isCells = true := by
  intro j o hj ho
  by_cases hn : 0 < n
  · obtain ⟨g, p, cap, rfl, h1, h2, h3, h4, h5, h6⟩ := h.holds hn
    obtain rfl : g = j := by simpa [Value.ownBlock] using hj
    have hc : 0 < cap * size := Nat.mul_pos (by omega) hs
    obtain ⟨u, hu⟩ := Option.isSome_iff_exists.1 (h6 0 hc).1
    obtain ⟨o', ho', hc'⟩ := cells_of_cell hu
    rw [show w.heap[g]? = _ from ho] at ho'
    cases ho'
    exact hc'
  · rw [hv (by omega)] at hj
    cases hj
theorem beside_post (W : World) (n i : Int) : Calls Tryd.prog 42 #[.int .i64 n, .int .i64 i] W fun e w' => ∃ q, q = W.heap.size ∧ e = .returned (.func (.func 57) #[] #[.pointer (some ⟨q, 0, none⟩), .pointer (some ⟨q + 1, 0, none⟩)]) ∧ Below W.heap.size W w' ∧ w'.heap.size = q + 2 ∧ w'.cell? ⟨q, 0, none⟩ = some (.int .i64 n) ∧ w'.cell? ⟨q + 1, 0, none⟩ = some (.int .i64 i) := by
  refine (beside_any W n i).mono ?_
  rintro e w' ⟨rfl, rfl⟩
  refine ⟨W.heap.size, rfl, rfl, ((Below.refl _ _).alloc (Nat.le_refl _) _).alloc (by simp) _, by simp, ?_, ?_⟩
  · rw [World.cell?_alloc_lt _ _ _ (by simp)]
    exact (Boxed.new W 3 (.int .i64 n)).cell
  · have := (Boxed.new (W.alloc (.cells #[.int .i64 n] 3)) 3 (.int .i64 i)).cell
    rwa [World.size_alloc] at this
theorem parts_len : ∀ (f a b i : Nat), (Mk.parts f a b i).length ≤ f
  | 0, _, _, _ => by simp [Mk.parts]
  | f + 1, a, b, i => by
    rw [Mk.parts]
    split
    · simp only
      split
      · have := parts_len f (a + Mk.half (b - a)) b i
        simp only [List.length_cons]
        omega
      · have := parts_len f a (a + Mk.half (b - a)) i
        simp only [List.length_cons]
        omega
    · simp
theorem digs_mid {w : World} {A : Option Addr} {c a b : Nat} {ds : List (List Nat)} (h : DigsAt w (.slice A ds.length c) ds) (h0 : 0 < ds.length) (hab : a ≤ b) (hb : b ≤ ds.length) :
    DigsAt w (.slice (if c = a then A else A.map fun x => x.add (a * 32)) (b - a) (c - a)) ((ds.take b).drop a) := by
  obtain ⟨g, o, cap, e, h1, -, -⟩ := h.sees.holds h0
  injection e with e1 e2 e3
  subst e1 e3
  have hl : (ds.take b).length = b := by rw [List.length_take]; omega
  have h2 := DigsAt.drop (k := a) (h.take hb c ⟨by omega, Nat.le_refl _⟩) (by rw [hl]; exact hab)
  rw [hl] at h2
  by_cases hc : c = a
  · rw [if_pos hc]
    exact h2 _ (.inl ⟨hc, rfl⟩)
  · rw [if_neg hc]
    exact h2 _ (.inr (add_lit _ _ _))
/-- Between rounds: the list so far, the leaves' digests. -/
def PI (W : World) (V : Value) (q : Nat) (ds : List (List Nat)) (pre : List Part) (wr : World) : Prop :=
  ∃ (A2 : Option Addr) (c2 : Nat), Boxed wr (W.heap.size + 1) 33 (.slice A2 pre.length c2) ∧ Owns wr (q + 2) 32 (.slice A2 pre.length c2) pre.length (bytesV (pre.map fun p => rootOf ds (fixP ds.length p)).flatten) ∧ (pre.length = 0 → A2 = none) ∧ Boxed wr W.heap.size 33 V ∧ Below W.heap.size W wr ∧ q + 2 ≤ wr.heap.size
theorem PI.own (W : World) (V : Value) (q : Nat) (ds : List (List Nat)) (hq : W.heap.size + 2 ≤ q) : OwnFrom (q + 2) (PI W V q ds) := by
  rintro pre X Y row ⟨A2, c2, h1, h2, h3, h4, h5, h6⟩ hg hr
  have hr' : ∀ r, row = some r → ∃ o : Obj, X.heap[r]? = some o ∧ o.isCells = false := fun r e => (hr r e).2
  have hne : ∀ k, k < q + 2 → some k ≠ row := fun k hk e => by have := (hr k e.symm).1; omega
  exact ⟨A2, c2, h1.kept hg (hne _ (by omega)), owns_loose h2 hg hr', h3, h4.kept hg (hne _ (by omega)), h5.grown hg (by omega) (fun k e => by have := (hr k e).1; omega), Nat.le_trans h6 hg.size⟩
set_option maxRecDepth 100000 in
set_option maxHeartbeats 2000000 in
theorem prove_some (W : World) (v : Value) (ds : List (List Nat)) (i : Nat) (hG : Glob W) (h : DigsAt W v ds) (hn : ds.length ≤ 1000000) (hi : i < ds.length)
    (hrev : ∀ (W' : World) (base : Nat) (v' : Value), OwnD W' base v' ((partsOf ds.length i).map (rootOf ds)) → Calls Tryd.prog 55 #[v'] W' (RevPost W' base v' ((partsOf ds.length i).map (rootOf ds)))) :
    Calls Tryd.prog 40 #[.int .i64 i, v] W (ProofPost W (proofN i ds)) := by
  obtain ⟨A, c, rfl, hlc, hcm⟩ := h.form
  have H := Lib.hid (And.intro hG (And.intro h hrev))
  clear hG h hrev
  have hge : ¬ (i : Int) < 0 := by omega
  have hlt : ¬ (ds.length : Int) ≤ (i : Int) := by omega
  refine (callsIn_wide (n := 9)).1 ?_
  refine callsIn_of_wp_marks Tryd.func40 rfl trivial ?_ rfl
  simp only [Tryd.ntmps40, List.size_toArray, List.length_cons, List.length_nil, Nat.reduceAdd, Nat.reduceSub, Array.replicate_succ, Array.replicate_zero, List.push_toArray, List.append_toArray, List.nil_append, List.cons_append]
  gi_wp2_with fail
  obtain ⟨w1, hw1⟩ : ∃ w1, w1 = (W.alloc (.cells #[.slice A ds.length c] 33)).alloc (.cells #[.slice none 0 0] 33) := ⟨_, rfl⟩
  rw [← hw1]
  have hb1 : Below W.heap.size W w1 := by rw [hw1]; exact ((Below.refl _ _).alloc (Nat.le_refl _) _).alloc (by simp) _
  have hs1 : w1.heap.size = W.heap.size + 2 := by rw [hw1]; simp
  have hB3 : Boxed w1 W.heap.size 33 (.slice A ds.length c) := by rw [hw1]; exact (Boxed.new W _ _).alloc _
  have hB6 : Boxed w1 (W.heap.size + 1) 33 (.slice none 0 0) := by
    rw [hw1]
    have := Boxed.new (W.alloc (.cells #[.slice A ds.length c] 33)) 33 (.slice none 0 0)
    simpa using this
  have H1 := Lib.hid (And.intro hb1 (And.intro hs1 (And.intro hB3 hB6)))
  clear hb1 hs1 hB3 hB6 hw1
  refine ⟨trivial, ?_⟩
  with_reducible refine CallsIn.mono (callsIn_wide.2 (beside_post w1 _ _)) ?_
  rintro e w4 ⟨q, hq, rfl, hb4, hs4, cn, ci⟩
  have hq2 : q = W.heap.size + 2 := hq.trans H1.out.2.1
  have h0 : PI W (.slice A ds.length c) q ds [] w4 := ⟨none, 0, (hb4.block _ (by have := H1.out.2.1; omega)).trans H1.out.2.2.2, Owns.nil _ _ _, fun _ => rfl, (hb4.block _ (by have := H1.out.2.1; omega)).trans H1.out.2.2.1, H1.out.1.trans (hb4.mono (by have := H1.out.2.1; omega)), by omega⟩
  have HI := Lib.hid (And.intro h0 (And.intro hb4 hq))
  have HQ := Lib.hid hq2
  clear h0 hb4 hq hq2
  gi_wp2_with fail
  refine wpIn_rangeFunc_ownH rfl (by omega) (gf := 57) (lb := #[.pointer (some ⟨q, 0, none⟩), .pointer (some ⟨q + 1, 0, none⟩)]) rfl trivial (enters_of Tryd.func57 (by kernel_rfl) rfl)
    (seq_beside 8 (by omega) ds.length i (by omega) hi q (q + 1) w4 cn ci (· = q + 1) rfl (by intro k hk; omega)) KeepS.trans (keepS_b (by intro k hk; omega)) (Below.refl _ _) (fun _ => rfl)
    (PI W (.slice A ds.length c) q ds) (fun _ _ _ => False) (by rw [hs4]; exact PI.own W _ q ds (by have := HQ.out; omega)) (fun _ _ _ _ _ hs _ _ => hs) HI.out.1
    (fun x a' Wr => ∃ Bx, q + 2 ≤ Bx ∧ Wr.heap[Bx]? = some (.cells #[.int .i64 ((fixP ds.length x).1 : Int), .int .i64 ((fixP ds.length x).2.1 : Int), .bool (fixP ds.length x).2.2] 73 (0, 0)) ∧ (∀ A2 n2 c2, Boxed Wr (W.heap.size + 1) 33 (.slice A2 n2 c2) → (Value.slice A2 n2 c2).ownBlock ≠ some Bx) ∧ a' = { tmps := #[.int .i64 (i : Int), .slice A ds.length c, undef, .pointer (some ⟨W.heap.size, 0, none⟩), .slice none 0 0, .int .i64 0, .pointer (some ⟨W.heap.size + 1, 0, none⟩), .pointer (some ⟨Bx, 0, none⟩), .int .i64 (i : Int), .bool false, .bool false, .int .i64 (i : Int), .slice A ds.length c, .int .i64 (ds.length : Int), .bool false, .bool false, .slice A ds.length c, .int .i64 (ds.length : Int), .int .i64 (i : Int), .func (.func 57) #[] #[.pointer (some ⟨q, 0, none⟩), .pointer (some ⟨q + 1, 0, none⟩)], partV (fixP ds.length x), undef, undef, undef, undef, undef, undef, undef, undef, undef, undef, undef, undef, undef], defers := [] })
    ?hax ?assign ?body ?done ?stop
  case hax =>
    rintro x a' _ X Y row ⟨Bx, h1, h3, h5, h4⟩ hg hrow
    refine ⟨Bx, h1, (hg.block Bx (Array.getElem?_eq_some_iff.1 h3).1 (fun e => ?_)).trans h3, fun A2 n2 c2 hb => h5 A2 n2 c2 ?_, h4⟩
    · obtain ⟨_, o, ho, hc⟩ := hrow Bx e.symm
      rw [h3] at ho; cases ho; cases hc
    · have hlt6 : W.heap.size + 1 < X.heap.size := by
        have := (Array.getElem?_eq_some_iff.1 h3).1
        have := HQ.out
        omega
      exact (hg.block _ hlt6 (fun e => by have := (hrow _ e.symm).1; have := HQ.out; omega)).symm.trans hb
  case assign =>
    rintro l pre x Wr K hPI hK
    have hne : ∀ A2 n2 c2, Boxed (Wr.alloc (.cells #[.int .i64 ((fixP ds.length x).1 : Int), .int .i64 ((fixP ds.length x).2.1 : Int), .bool (fixP ds.length x).2.2] 73)) (W.heap.size + 1) 33 (.slice A2 n2 c2) → (Value.slice A2 n2 c2).ownBlock ≠ some Wr.heap.size := by
      obtain ⟨A3, c3, k1, k2, -, -, -, k6⟩ := hPI
      intro A2 n2 c2 hb
      have e1 := hb.cell
      rw [(k1.alloc _).cell] at e1
      rw [← Option.some.inj e1]
      intro e
      have := (k2.lt _ e).2
      omega
    have hsz := hPI
    have HP := Lib.hid (And.intro hPI (And.intro hK hne))
    obtain ⟨_, _, _, _, _, _, _, hsz⟩ := hsz
    clear hPI hK hne
    unfold partV
    gi_wp2
    refine HP.out.2.1 _ _ ((KeepsOthers.alloc _ _).from _) ((KeepS.refl _ Wr).alloc (by intro k hk; omega) _) ?_ ⟨Wr.heap.size, by omega, heap_alloc_new Wr _, HP.out.2.2, rfl⟩
    exact PI.own W _ q ds (by have := HQ.out; omega) pre Wr _ none HP.out.1 (World.grownBy_alloc _ _ _) (by simp)
  case body =>
    rintro l pre x a' Wr hl ⟨r, hrl⟩ ⟨A2, c2, hb6, hown, hnil, hb3, hbel, hsz⟩ ⟨Bx, hx1, hx2, hx3, rfl⟩ hlt2
    obtain ⟨y, hy⟩ : ∃ y, y = fixP ds.length x := ⟨_, rfl⟩
    have hyl := fixP_le ds.length x
    rw [← hy] at hx2 hyl ⊢
    have HY := Lib.hid (And.intro hy hlt2)
    clear hy hlt2
    have e6 := hb6.cell
    have e3 := hb3.cell
    have ex0 : Wr.cell? ⟨Bx, 0, none⟩ = some (.int .i64 (y.1 : Int)) := by rw [cell_of_row Wr Bx 0 _ _ _ hx2]; rfl
    have ex1 : Wr.cell? ⟨Bx, 1, none⟩ = some (.int .i64 (y.2.1 : Int)) := by rw [cell_of_row Wr Bx 1 _ _ _ hx2]; rfl
    have hne := hx3 _ _ _ hb6
    have HB := Lib.hid (And.intro hb6 (And.intro hown (And.intro hnil (And.intro hb3 (And.intro hbel (And.intro hx2 (And.intro hne hrl)))))))
    clear hb6 hown hnil hb3 hbel hx2 hx3 hne hrl
    gi_wp2
    refine wpIn_round_held_fam (fun w' => w'.cell? ⟨W.heap.size + 1, 0, none⟩ = some (.slice A2 pre.length c2) ∧ w'.cell? ⟨W.heap.size, 0, none⟩ = some (.slice A ds.length c) ∧ w'.cell? ⟨Bx, 0, none⟩ = some (.int .i64 (y.1 : Int)) ∧ w'.cell? ⟨Bx, 1, none⟩ = some (.int .i64 (y.2.1 : Int))) 7 (by kernel_rfl) (by kernel_rfl) ⟨e6, e3, ex0, ex1⟩ ?_
    intro I hNI F hF
    have f6 : ∀ i, (F i).cell? ⟨W.heap.size + 1, 0, none⟩ = some (.slice A2 pre.length c2) := fun i => (hF i).1
    have f3 : ∀ i, (F i).cell? ⟨W.heap.size, 0, none⟩ = some (.slice A ds.length c) := fun i => (hF i).2.1
    have g0 : ∀ i, (F i).cell? ⟨Bx, 0, none⟩ = some (.int .i64 (y.1 : Int)) := fun i => (hF i).2.2.1
    have g1 : ∀ i, (F i).cell? ⟨Bx, 1, none⟩ = some (.int .i64 (y.2.1 : Int)) := fun i => (hF i).2.2.2
    clear hF
    simp only [List.take_succ_cons, List.take_zero, List.drop_succ_cons, List.drop_zero]
    repeat (go_big_quiet_step (fail))
    refine wpQuiet_nil ?_
    clear f6 f3 g0 g1 F I hNI
    have hroot := root_of Wr.drew _ _ (by rw [List.length_drop, List.length_take]; omega) (H.out.1.new HB.out.2.2.2.2.1.drew) (digs_mid (H.out.2.1.new HB.out.2.2.2.2.1.drew) (by omega) hyl.1 hyl.2)
    obtain ⟨D, hD⟩ : ∃ D, D = rootN ((ds.take y.2.1).drop y.1) := ⟨_, rfl⟩
    rw [← hD] at hroot
    have hDl : D.length = 32 := by rw [hD]; exact (dig_root _ _ (Nat.le_refl _) (fun d hd => H.out.2.1.dig d (List.mem_of_mem_take (List.mem_of_mem_drop hd)))).1
    generalize hsv : Value.slice (if c = y.1 then A else A.map fun x => x.add (y.1 * 32)) (y.2.1 - y.1) (c - y.1) = sv at hroot ⊢
    have HC := Lib.hid (And.intro hroot (And.intro hD hDl))
    have HS := Lib.hid (And.intro e6 (And.intro e3 (And.intro ex0 ex1)))
    clear hroot hD hDl hsv e6 e3 ex0 ex1
    simp only [tailH]
    go_wp2_with ((go_at_call 35; (with_reducible refine Calls.mono HC.out.1 ?_); rintro e w2 ⟨rfl, hb2⟩))
    have hk2 : ∀ p u, Wr.cell? p = some u → w2.cell? p = some u := fun p u hp => (hb2.cell (block_lt_of_cell hp)).trans hp
    refine ⟨rfl, ⟨hk2 _ _ HS.out.1, hk2 _ _ HS.out.2.1, hk2 _ _ HS.out.2.2.1, hk2 _ _ HS.out.2.2.2⟩, ?_⟩
    have H2 := Lib.hid (And.intro hk2 hb2)
    clear hk2 hb2
    go_wp2_with (refine wpList_build_dig rfl (.tmp 28) rfl D rfl HC.out.2.2 ?_)
    have hka : ∀ p u, Wr.cell? p = some u → (w2.alloc (.cells (bytesV D).toArray 24)).cell? p = some u := fun p u hp => (World.cell?_alloc_lt _ _ _ (block_lt_of_cell (H2.out.1 p u hp))).trans (H2.out.1 p u hp)
    refine ⟨rfl, ⟨hka _ _ HS.out.1, hka _ _ HS.out.2.1, hka _ _ HS.out.2.2.1, hka _ _ HS.out.2.2.2⟩, ?_⟩
    have HA := Lib.hid hka
    have HV := Lib.hid hyl
    clear hka hyl
    have hpl : pre.length ≤ 1000000 := by
      have h1 := HY.out.2
      have h2 := parts_len ds.length 0 ds.length i
      have h3 : (partsOf ds.length i).length ≤ ds.length := h2
      omega
    have hownA : Owns (w2.alloc (.cells (bytesV D).toArray 24)) (q + 2) 32 (.slice A2 pre.length c2) pre.length (bytesV (pre.map fun p => rootOf ds (fixP ds.length p)).flatten) := (HB.out.2.1.same (fun b hb => H2.out.2.block b (HB.out.2.1.lt b hb).2) H2.out.2.size).alloc _
    have HO := Lib.hid hownA
    clear hownA
    go_wp2_with ((at_builtin; refine wpList_append rfl (.tmp 21) (.tmp 29) 33 33 rfl (q + 2) 24 _ 32 32 Tryd.underlying33 infoD _ pre.length (bytesV (pre.map fun p => rootOf ds (fixP ds.length p)).flatten) rfl HO.out _ 1 (bytesV D) rfl (by exact src_dig (heap_alloc_new w2 _) HC.out.2.2) (by unfold maxLen; omega) (by omega) (by have h5 := H2.out.2.size; simp at h5 ⊢; omega) ?_; intro A3 c3 w3 hown3 hg3 hbl3))
    have hk3 : ∀ p u, (Value.slice A2 pre.length c2).ownBlock ≠ some p.block → Wr.cell? p = some u → w3.cell? p = some u := fun p u hne hp => (World.cell?_of_block (hg3.block p.block (block_lt_of_cell (HA.out p u hp)) (fun e => hne e.symm))).trans (HA.out p u hp)
    have hnb : ∀ k, k < q + 2 → (Value.slice A2 pre.length c2).ownBlock ≠ some k := fun k hk e => by have := (HB.out.2.1.lt k e).1; omega
    have hb63 : Boxed w3 (W.heap.size + 1) 33 (.slice A2 pre.length c2) := by
      have q1 : W.heap.size + 1 < Wr.heap.size := HB.out.1.lt
      have q2 := H2.out.2.size
      refine (hg3.block _ ?_ (fun e => hnb _ (by have := HQ.out; omega) e.symm)).trans ((Below.heap_alloc _ _ _ ?_).trans ((H2.out.2.block _ q1).trans HB.out.1))
      · simp at q2 ⊢; omega
      · simp at q2; omega
    have hb33 : Boxed w3 W.heap.size 33 (.slice A ds.length c) := by
      have q1 : W.heap.size < Wr.heap.size := HB.out.2.2.2.1.lt
      have q2 := H2.out.2.size
      refine (hg3.block _ ?_ (fun e => hnb _ (by have := HQ.out; omega) e.symm)).trans ((Below.heap_alloc _ _ _ ?_).trans ((H2.out.2.block _ q1).trans HB.out.2.2.2.1))
      · simp at q2 ⊢; omega
      · simp at q2; omega
    refine ⟨rfl, ⟨hk3 _ _ (hnb _ (by have := HQ.out; simp; omega)) HS.out.1, hk3 _ _ (hnb _ (by have := HQ.out; simp; omega)) HS.out.2.1, hk3 _ _ HB.out.2.2.2.2.2.2.1 HS.out.2.2.1, hk3 _ _ HB.out.2.2.2.2.2.2.1 HS.out.2.2.2⟩, ?_⟩
    have e6 := hb63.cell
    have f6 := hb63.frozen
    have H3 := Lib.hid (And.intro hown3 (And.intro hg3 (And.intro hbl3 (And.intro hb63 (And.intro hb33 hnb)))))
    clear hown3 hg3 hbl3 hb63 hb33 hnb hk3
    go_wp2_with fail
    refine ⟨rfl, ?_⟩
    gi_wp2
    have q1 : Wr.heap.size ≤ w2.heap.size := H2.out.2.size
    have q3 : w2.heap.size + 1 ≤ w3.heap.size := by have := H3.out.2.1.size; simpa using this
    have hq := HQ.out
    have hsz2 : q + 2 ≤ Wr.heap.size := hsz
    have blk : ∀ k, k < q + 2 → w3.heap[k]? = Wr.heap[k]? := fun k hk => by
      refine (H3.out.2.1.block k ?_ (fun e => H3.out.2.2.2.2.2 k hk e.symm)).trans ((Below.heap_alloc _ _ _ (by omega)).trans (H2.out.2.block k ?_))
      · simp; omega
      · show k < Wr.heap.size; omega
    refine ⟨?_, ?_, ?_⟩
    · refine KeepsOthers.from (KeepsOthers.trans ?_ (KeepsOthers.setCell _ _ _)) _
      refine KeepsOthers.trans (B := w2) ⟨q1, fun k o hk _ => (H2.out.2.block k (Array.getElem?_eq_some_iff.1 hk).1).trans hk⟩ (KeepsOthers.trans (KeepsOthers.alloc _ _) (KeepsOthers.of_grownBy H3.out.2.1 ?_))
      exact fun j o hj ho => owns_cells HO.out (by omega) (fun h => by rw [HB.out.2.2.1 h]; rfl) j o hj ho
    · refine KeepS.setCell ⟨by omega, fun k hk => ?_⟩ 0 (by omega) _
      subst hk
      exact blk _ (by omega)
    · have hl : (pre ++ [x]).length = pre.length + 1 := by simp
      unfold PI
      rw [hl]
      have hm : bytesV ((pre ++ [x]).map fun p => rootOf ds (fixP ds.length p)).flatten = bytesV (pre.map fun p => rootOf ds (fixP ds.length p)).flatten ++ bytesV D := by
        rw [List.map_append, List.flatten_append, bytesV_append]
        simp only [List.map_cons, List.map_nil, List.flatten_cons, List.flatten_nil, List.append_nil]
        rw [← HY.out.1, HC.out.2.1]
        rfl
      rw [hm]
      refine ⟨A3, c3, H3.out.2.2.2.1.set _, H3.out.1.setCell (fun b hb => by have := (H3.out.1.lt b hb).1; simp; omega) _, fun h => absurd h (by omega), H3.out.2.2.2.2.1.other (by omega) _, ?_, ?_⟩
      · refine Below.setCell (p := ⟨W.heap.size + 1, 0, none⟩) ⟨?_, ?_, ?_, ?_, fun k hk => (blk k (by omega)).trans (HB.out.2.2.2.2.1.block k hk)⟩ (by simp) _
        · exact H3.out.2.1.os.trans (H2.out.2.os.trans HB.out.2.2.2.2.1.os)
        · exact H3.out.2.1.tape.trans (H2.out.2.tape.trans HB.out.2.2.2.2.1.tape)
        · exact H3.out.2.1.output.trans (H2.out.2.output.trans HB.out.2.2.2.2.1.output)
        · exact Nat.le_trans HB.out.2.2.2.2.1.size (by omega)
      · simp [World.setCell]; omega
  case done =>
    rintro Dd ys Wd hD rfl ⟨A2, c2, hb6, hown, hnil, hb3, hbel, hsz⟩ hK
    have hfix : ((partsOf ds.length i).map fun p => rootOf ds (fixP ds.length p)) = (partsOf ds.length i).map (rootOf ds) := List.map_congr_left fun p hp => by rw [partsOf_fix p hp]
    rw [hfix] at hown
    obtain ⟨L, hL⟩ : ∃ L, L = (partsOf ds.length i).map (rootOf ds) := ⟨_, rfl⟩
    have hLl : (partsOf ds.length i).length = L.length := by rw [hL, List.length_map]
    have hLd : ∀ d ∈ L, Dig d := fun d hd => by
      rw [hL] at hd
      obtain ⟨p, -, rfl⟩ := List.mem_map.1 hd
      exact dig_root _ _ (Nat.le_refl _) (fun d hd => H.out.2.1.dig d (List.mem_of_mem_take (List.mem_of_mem_drop hd)))
    have hrev := H.out.2.2 Wd (q + 2) (.slice A2 (partsOf ds.length i).length c2)
    have hP : proofN i ds = L.reverse := by
      rw [hL]
      have := Mk.parts_proof (Sha.sum [2]) (Mk.nodeH Sha.sum) ds.length 0 ds.length i ds (by omega) (Nat.zero_le _) (Nat.le_refl _) (Nat.zero_le _) hi
      simp only [Nat.sub_zero, List.take_length, List.drop_zero] at this
      exact this.symm
    rw [← hL] at hown hrev
    rw [hLl] at hown hrev hb6
    have hc := hrev ⟨hown, hLd⟩
    have e6 := hb6.cell
    have HD := Lib.hid (And.intro hc (And.intro hown (And.intro hnil (And.intro hbel (And.intro hb6 (And.intro hK (And.intro hP hLl)))))))
    have HN := Lib.hid (And.intro hD hsz)
    clear hc hown hnil hbel hb3 hb6 hK hP hrev hL hLl hfix hLd hD hsz
    gi_wp2
    refine ⟨trivial, ?_⟩
    with_reducible refine CallsIn.mono (callsIn_wide.2 HD.out.1) ?_
    rintro e w5 ⟨rfl, ho5, hk5⟩
    have hnb : ∀ k, k < q + 2 → (Value.slice A2 L.length c2).ownBlock ≠ some k := fun k hk e => by have := (HD.out.2.1.lt k e).1; omega
    have e6' : w5.cell? ⟨W.heap.size + 1, 0, none⟩ = some (.slice A2 L.length c2) := hk5.cell e6 (hnb _ (by have := HQ.out; simp; omega))
    have hK5 : w5.heap[Dd]? = some (.deferred (some [])) := by
      refine (hk5.block Dd (Array.getElem?_eq_some_iff.1 HD.out.2.2.2.2.2.1).1 (fun e => ?_)).trans HD.out.2.2.2.2.2.1
      have := owns_cells HD.out.2.1 (by omega) (fun h => by rw [HD.out.2.2.1 (by rw [HD.out.2.2.2.2.2.2.2]; exact h)]; rfl) Dd _ e HD.out.2.2.2.2.2.1
      cases this
    have H5 := Lib.hid (And.intro ho5 (And.intro hk5 (And.intro hnb hK5)))
    clear ho5 hk5 hnb hK5 e6
    gi_wp2
    have hb5 : Below W.heap.size W w5 := HD.out.2.2.2.1.trans (H5.out.2.1.below (by have := HN.out.2; have := HQ.out; omega) (fun b hb => H5.out.2.2.1 b (by have := HQ.out; omega)))
    refine ⟨by simp, .inl ⟨_, _, rfl, run_takeDeferred H5.out.2.2.2, ?_⟩⟩
    refine ⟨_, results_tmp2 rfl _ _ _, ?_⟩
    have hlen : (proofN i ds).length = L.length := by rw [HD.out.2.2.2.2.2.2.1, List.length_reverse]
    refine ⟨A2, c2, by rw [hlen]; rfl, ?_, ?_⟩
    · rw [hlen, HD.out.2.2.2.2.2.2.1]
      exact ⟨(owns_loose H5.out.1.own (grownBy_putObj' w5 Dd (.deferred none)) (fun r e => by cases e; exact ⟨_, H5.out.2.2.2, rfl⟩)).mono (by have := HQ.out; omega), H5.out.1.dig⟩
    · exact hb5.grown (grownBy_putObj' w5 Dd _) hb5.size (fun k e => by cases e; have := HN.out.1; have := HQ.out; omega)
  case stop =>
    rintro D cc pre Wd _ _ h _
    exact h.elim
set_option maxRecDepth 100000 in
/-- No leaf at that place: none. -/
theorem prove_none (W : World) (A : Option Addr) (n c : Nat) (i : Int) (hn : n ≤ 1000000) (hi : i < 0 ∨ (n : Int) ≤ i) : Calls Tryd.prog 40 #[.int .i64 i, .slice A n c] W fun e w' => e = .returned (.tuple #[.slice none 0 0, .int .i64 10]) ∧ Below W.heap.size W w' := by
  go_enter Tryd.func40, Tryd.ntmps40
  by_cases h : i < 0
  · go_wp2_with fail
    go_ret2
    exact ⟨rfl, (Below.refl _ _).alloc (Nat.le_refl _) _⟩
  · have h2 : (n : Int) ≤ i := by omega
    go_wp2_with fail
    go_ret2
    exact ⟨rfl, (Below.refl _ _).alloc (Nat.le_refl _) _⟩
end Go.Proofs.YtplcjgpmainbnaaDoor.MkW
