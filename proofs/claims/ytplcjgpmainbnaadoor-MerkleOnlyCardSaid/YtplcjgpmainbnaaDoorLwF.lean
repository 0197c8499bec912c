/- The law's helper Found. -/
import Derived.Test.YtplcjgpmainbnaaDoorLwD
set_option linter.unusedVariables false
set_option linter.unusedSimpArgs false
namespace Go.Proofs.YtplcjgpmainbnaaDoor.MkW
open Go.RowKit OwnS ShaW RevL QTail
attribute [local go_sem ↓] Kit.execOp_call_slot
attribute [local go_sem] Kit.callSlot_func
/-- Two digests' blocks, and the j-th ones of two lists. -/
structure Four (w : World) (R Q : Nat) (x y : List Nat) (qg qo rg ro : Nat) (q r : List Nat) (j : Nat) : Prop where
  a : w.rangeAt R 0 (bytesV x)
  b : w.rangeAt Q 0 (bytesV y)
  c : w.rangeAt qg (qo + j * 32) (bytesV q)
  d : w.rangeAt rg (ro + j * 32) (bytesV r)
  dx : Dig x
  dy : Dig y
  dq : Dig q
  dr : Dig r
theorem Four.new {w w' : World} {R Q : Nat} {x y : List Nat} {qg qo rg ro : Nat} {q r : List Nat} {j : Nat} (h : Four w R Q x y qg qo rg ro q r j) (hb : Below w.heap.size w w') : Four w' R Q x y qg qo rg ro q r j := by
  have lt : ∀ {g o : Nat} {d : List Nat}, Dig d → w.rangeAt g o (bytesV d) → w'.rangeAt g o (bytesV d) := fun hd hr => rangeAt_block hr (hb.block _ (block_lt_of_range hr (by rw [bytesV_length, hd.1]; omega)))
  exact ⟨lt h.dx h.a, lt h.dy h.b, lt h.dq h.c, lt h.dr h.d, h.dx, h.dy, h.dq, h.dr⟩
def boolV (b : Bool) : Value := .bool b
theorem infoBool : ElemInfo Tryd.prog 4 (.bool false) 1 1 := elemInfo (by kernel_rfl) rfl rfl
/-- What Found tells: qs from the leaf on. -/
def foundN (ws : List Bool) (a b : List Nat) (qs rs : List (List Nat)) : Bool := collides (0 :: a) (0 :: b) || Mk.foundUp Sha.sum ws qs rs (leafH a) (leafH b)
theorem drop_at {α : Type} {l : List α} {j : Nat} {x : α} (h : l[j]? = some x) : l.drop j = x :: l.drop (j + 1) := by
  obtain ⟨hj, rfl⟩ := List.getElem?_eq_some_iff.1 h
  exact List.drop_eq_getElem_cons hj
theorem nodeB_byte {a b : List Nat} (ha : Dig a) (hb : Dig b) : (∀ x ∈ Mk.nodeB a b, x < 256) ∧ (Mk.nodeB a b).length ≤ 100000000 := by
  unfold Mk.nodeB
  refine ⟨fun x hx => ?_, by simp [ha.1, hb.1]⟩
  simp only [List.mem_cons, List.mem_append] at hx
  rcases hx with rfl | hx | hx
  · omega
  · exact ha.2 x hx
  · exact hb.2 x hx
theorem ways_of (n i : Nat) : (partsOf n i).map (·.2.2) = Mk.ways n n i := by
  have := Mk.parts_ways n 0 n i (by omega) (Nat.zero_le _) (Nat.zero_le _)
  simp only [Nat.sub_zero] at this
  exact this
set_option maxRecDepth 100000 in
set_option maxHeartbeats 4000000 in
theorem found_any (W : World) (n i : Nat) (N1 I1 N2 I2 : Int) (av aq bv bq : Value) (a b : List Nat) (qs rs : List (List Nat)) (hG : Glob W) (hn : n ≤ 1000000) (hi : i < n)
    (ha : Sees W 1 av a.length (bytesV a)) (hb : Sees W 1 bv b.length (bytesV b)) (ha1 : ∀ x ∈ a, x < 256) (hb1 : ∀ x ∈ b, x < 256) (ha2 : a.length ≤ 1000000) (hb2 : b.length ≤ 1000000) (hq : DigsAt W aq qs) (hr : DigsAt W bq rs) (hql : (partsOf n i).length = qs.length) (hrl : (partsOf n i).length = rs.length) :
    Calls Tryd.prog 25 #[.int .i64 n, .int .i64 i, .agg #[.int .i64 N1, .int .i64 I1, av, aq], .agg #[.int .i64 N2, .int .i64 I2, bv, bq]] W fun e w' => e = .returned (.bool (foundN (sidesOf n i) a b qs rs)) ∧ Below W.heap.size W w' := by
  obtain ⟨aA, ac, rfl, -, -⟩ := ha.form
  obtain ⟨bA, bc, rfl, -, -⟩ := hb.form
  obtain ⟨qA, qc, rfl, hqc, -⟩ := hq.form
  obtain ⟨rA, rc, rfl, hrc, -⟩ := hr.form
  have hlog := partsOf_log n i (by omega)
  have hqr : rs.length = qs.length := by omega
  rw [hqr] at hr hrc ⊢
  obtain ⟨W0, hW0⟩ : ∃ W0, W0 = (W.alloc (.cells #[.int .i64 N1, .int .i64 I1, .slice aA a.length ac, .slice qA qs.length qc] 40)).alloc (.cells #[.int .i64 N2, .int .i64 I2, .slice bA b.length bc, .slice rA qs.length rc] 40) := ⟨_, rfl⟩
  have hb0 : Below W.heap.size W W0 := by rw [hW0]; exact ((Below.refl _ _).alloc (Nat.le_refl _) _).alloc (by simp) _
  have h6 : W0.heap[W.heap.size]? = some (.cells #[.int .i64 N1, .int .i64 I1, .slice aA a.length ac, .slice qA qs.length qc] 40 (0, 0)) := by
    rw [hW0, Below.heap_alloc _ _ _ (by simp)]
    exact heap_alloc_new _ _
  have h7 : W0.heap[W.heap.size + 1]? = some (.cells #[.int .i64 N2, .int .i64 I2, .slice bA b.length bc, .slice rA qs.length rc] 40 (0, 0)) := by
    rw [hW0]
    have := heap_alloc_new (W.alloc (.cells #[.int .i64 N1, .int .i64 I1, .slice aA a.length ac, .slice qA qs.length qc] 40)) (.cells #[.int .i64 N2, .int .i64 I2, .slice bA b.length bc, .slice rA qs.length rc] 40)
    simpa using this
  have cells : ∀ w, Below W0.heap.size W0 w → w.cell? ⟨W.heap.size, 2, none⟩ = some (.slice aA a.length ac) ∧ w.cell? ⟨W.heap.size, 3, none⟩ = some (.slice qA qs.length qc) ∧ w.cell? ⟨W.heap.size + 1, 2, none⟩ = some (.slice bA b.length bc) ∧ w.cell? ⟨W.heap.size + 1, 3, none⟩ = some (.slice rA qs.length rc) := fun w hw => by
    have k6 := (hw.block _ (Array.getElem?_eq_some_iff.1 h6).1).trans h6
    have k7 := (hw.block _ (Array.getElem?_eq_some_iff.1 h7).1).trans h7
    exact ⟨by rw [cell_of_row _ _ 2 _ _ _ k6]; rfl, by rw [cell_of_row _ _ 3 _ _ _ k6]; rfl, by rw [cell_of_row _ _ 2 _ _ _ k7]; rfl, by rw [cell_of_row _ _ 3 _ _ _ k7]; rfl⟩
  have g0 : ¬ (1000000 : Int) < (n : Int) := by omega
  have g1 : ¬ (n : Int) < 1 := by omega
  have g2 : ¬ (i : Int) < 0 := by omega
  have g3 : ¬ (n : Int) ≤ (i : Int) := by omega
  have hla : ∀ w, Below W.heap.size W w → Calls Tryd.prog 12 #[.slice aA a.length ac] w (SumPost w (leafH a)) := fun w hw => leaf_any w _ a (hG.new hw) (ha.new hw) ha1 (by omega)
  have hlb : ∀ w, Below W.heap.size W w → Calls Tryd.prog 12 #[.slice bA b.length bc] w (SumPost w (leafH b)) := fun w hw => leaf_any w _ b (hG.new hw) (hb.new hw) hb1 (by omega)
  obtain ⟨x0, hx0⟩ : ∃ x0, x0 = leafH a := ⟨_, rfl⟩
  obtain ⟨y0, hy0⟩ : ∃ y0, y0 = leafH b := ⟨_, rfl⟩
  have dx0 : Dig x0 := by rw [hx0]; exact dig_leaf _
  have dy0 : Dig y0 := by rw [hy0]; exact dig_leaf _
  rw [← hx0] at hla
  rw [← hy0] at hlb
  unfold foundN
  rw [← hx0, ← hy0]
  obtain ⟨p, hp⟩ : ∃ p, p = collides (0 :: a) (0 :: b) := ⟨_, rfl⟩
  obtain ⟨u, hu⟩ : ∃ u, u = Mk.foundUp Sha.sum (sidesOf n i) qs rs x0 y0 := ⟨_, rfl⟩
  rw [← hp, ← hu]
  have HU := Lib.hid (And.intro hp hu)
  clear hp hu
  have H := Lib.hid (And.intro hG (And.intro ha (And.intro hb (And.intro ha1 (And.intro hb1 (And.intro hq (And.intro hr (And.intro hql hrl))))))))
  have HL := Lib.hid (And.intro hla (And.intro hlb (And.intro dx0 dy0)))
  have H0 := Lib.hid (And.intro hb0 (And.intro h6 (And.intro h7 cells)))
  have hc0 := cells W0 (Below.refl _ _)
  rw [hW0] at hc0
  obtain ⟨e62, e63, e72, e73⟩ := hc0
  have HQ := Lib.hid hqr
  clear hG ha hb ha1 hb1 hq hr hql hrl hla hlb dx0 dy0 hx0 hy0 hb0 h6 h7 cells hqr
  go_enter Tryd.func25, Tryd.ntmps25
  go_upto_region 3 with fail
  change Code.wp _ _ _ _ ((W.alloc (.cells #[.int .i64 N1, .int .i64 I1, .slice aA a.length ac, .slice qA qs.length qc] 40)).alloc (.cells #[.int .i64 N2, .int .i64 I2, .slice bA b.length bc, .slice rA qs.length rc] 40))
  rw [← hW0]
  obtain ⟨B, hB⟩ : ∃ B, B = W.heap.size := ⟨_, rfl⟩
  have HB0 := Lib.hid hB
  rw [← hB] at H0 ⊢
  clear e62 e63 e72 e73 hW0 hB
  have e62 := (H0.out.2.2.2 W0 (Below.refl _ _)).1
  have HX0 := Lib.hid (show Below W.heap.size W W0 by rw [← HB0.out]; exact H0.out.1)
  go_upto_region 4 with (first | (go_at_call 12; (with_reducible refine Calls.mono (HL.out.1 _ HX0.out) ?_); rintro e w1 ⟨rfl, hb1⟩) | (refine wpList_store_dig rfl (.tmp 9) (.tmp 44) rfl w1.heap.size rfl x0 rfl HL.out.2.2.1.1 zero32 (by exact heap_alloc_new _ _) zero32_length ?_))
  change Code.wp _ _ _ _ ((w1.alloc (.cells zero32.toArray 24)).setRow w1.heap.size (bytesV x0).toArray)
  obtain ⟨x1, hx1, hv1, hB1, hs1⟩ := dig_cut w1 x0
  rw [← hx1]
  have hX1 : Below W0.heap.size W0 x1 := below_chain hb1 hB1
  obtain ⟨R, hq1⟩ : ∃ R, R = w1.heap.size := ⟨_, rfl⟩
  have hR1 : W0.heap.size ≤ R := by rw [hq1]; exact hb1.size
  rw [← hq1] at hv1 hs1 ⊢
  have HX1 := Lib.hid (And.intro hv1 (And.intro hX1 (And.intro (below_chain HX0.out hX1) hR1)))
  clear e62 hv1 hs1 hb1 hB1 hX1 hx1 hq1 hR1
  have e72 := (H0.out.2.2.2 x1 HX1.out.2.1).2.2.1
  go_upto_region 5 with (first | (go_at_call 12; (with_reducible refine Calls.mono (HL.out.2.1 _ HX1.out.2.2.1) ?_); rintro e w2 ⟨rfl, hb2⟩) | (refine wpList_store_dig rfl (.tmp 10) (.tmp 47) rfl w2.heap.size rfl y0 rfl HL.out.2.2.2.1 zero32 (by exact heap_alloc_new _ _) zero32_length ?_))
  change Code.wp _ _ _ _ ((w2.alloc (.cells zero32.toArray 24)).setRow w2.heap.size (bytesV y0).toArray)
  obtain ⟨x2, hx2, hv2, hB2, hs2⟩ := dig_cut w2 y0
  rw [← hx2]
  have hX2 : Below x1.heap.size x1 x2 := below_chain hb2 hB2
  obtain ⟨Q, hq2⟩ : ∃ Q, Q = w2.heap.size := ⟨_, rfl⟩
  have hRlt := (Array.getElem?_eq_some_iff.1 HX1.out.1).1
  have hRQ : R < Q := by rw [hq2]; exact Nat.lt_of_lt_of_le hRlt hb2.size
  rw [← hq2] at hv2 hs2 ⊢
  have HX2 := Lib.hid (And.intro ((hX2.block R hRlt).trans HX1.out.1) (And.intro hv2 (And.intro (below_chain HX1.out.2.1 hX2) (And.intro (below_chain HX1.out.2.2.1 hX2) (And.intro hRQ HX1.out.2.2.2)))))
  clear e72 hv2 hs2 hb2 hB2 hX2 hx2 hq2 hRlt hRQ HX1
  simp only [Act.put]
  have hS2 := H0.out.2.2.2 x2 HX2.out.2.2.1
  refine wp_region_mixS (fun w' => w'.cell? ⟨B, 2, none⟩ = some (.slice aA a.length ac) ∧ w'.cell? ⟨B + 1, 2, none⟩ = some (.slice bA b.length bc)) (fun k => k == 1 || k == 4) [0, 1, 3, 4, 2, 5, 6] (by kernel_rfl) rfl (by kernel_rfl) (by kernel_rfl) (by kernel_rfl) ⟨hS2.1, hS2.2.2.1⟩ ?_
  intro I hNI F hF
  have f0 : ∀ j : I, (F j).cell? ⟨B, 2, none⟩ = some (.slice aA a.length ac) := fun j => (hF j).1
  have f1 : ∀ j : I, (F j).cell? ⟨B + 1, 2, none⟩ = some (.slice bA b.length bc) := fun j => (hF j).2
  have HS2 := Lib.hid hS2
  clear hF hS2
  simp only [pairOps, List.filterMap_cons, List.filterMap_nil, List.getElem?_cons_succ, List.getElem?_cons_zero, Option.map_some]
  repeat (first | (refine mixN_free rfl rfl ?_; go_big_quiet_step (fail); refine wpQuiet_nil ?_) | (refine mixN_need rfl rfl ⟨HS2.out.1, HS2.out.2.2.1⟩ ?_; go_big_quiet_step (fail); refine wpQuiet_nil ?_))
  have hd2 : Below x2.heap.size x2 x2.drew := (Below.refl _ _).drew
  have hl2 := leafbytes_any x2.drew _ a (H.out.2.1.new (below_chain HX2.out.2.2.2.1 hd2)) (by omega)
  have HL2 := Lib.hid (And.intro hl2 (below_chain HX2.out.2.2.2.1 hd2))
  clear hl2 hd2
  refine mixN_step rfl ?_
  go_wp2_with (go_at_call 34; (with_reducible refine Calls.mono HL2.out.1 ?_); rintro e w3 ⟨A3, c3, rfl, hs3, hb3⟩)
  have hb3' : Below x2.heap.size x2 w3 := ⟨hb3.os, hb3.tape, hb3.output, hb3.size, hb3.block⟩
  have hS3 := H0.out.2.2.2 w3 (below_chain HX2.out.2.2.1 hb3')
  refine ⟨rfl, fun _ => ⟨hS3.1, hS3.2.2.1⟩, ?_⟩
  have hl3 := leafbytes_any w3 _ b (H.out.2.2.1.new (below_chain HX2.out.2.2.2.1 hb3')) (by omega)
  have H3 := Lib.hid (And.intro hl3 (And.intro hs3 hb3'))
  clear hl3 hs3 hb3 hb3' hS3
  refine mixN_step rfl ?_
  go_wp2_with (go_at_call 34; (with_reducible refine Calls.mono H3.out.1 ?_); rintro e w4 ⟨A4, c4, rfl, hs4, hb4⟩)
  have hb4' := below_chain H3.out.2.2 hb4
  have hS4 := H0.out.2.2.2 w4 (below_chain HX2.out.2.2.1 hb4')
  refine ⟨rfl, fun _ => ⟨hS4.1, hS4.2.2.1⟩, ?_⟩
  have hW4 := below_chain HX2.out.2.2.2.1 hb4'
  have hc4 := collides_any w4 _ _ (0 :: a) (0 :: b) (H.out.1.new hW4) (H3.out.2.1.sees.new hb4) hs4.sees (fun x hx => by rcases List.mem_cons.1 hx with rfl | hx; omega; exact H.out.2.2.2.1 x hx) (fun x hx => by rcases List.mem_cons.1 hx with rfl | hx; omega; exact H.out.2.2.2.2.1 x hx) (by simp; omega) (by simp; omega)
  rw [← HU.out.1] at hc4
  have H4 := Lib.hid (And.intro hc4 hb4')
  clear hc4 hs4 hb4 hb4' hS4 hW4
  refine mixN_step rfl ?_
  go_wp2_with (go_at_call 44; (with_reducible refine Calls.mono H4.out.1 ?_); rintro e w5 ⟨rfl, hb5⟩)
  have hb5' := below_chain H4.out.2 hb5
  have hS5 := H0.out.2.2.2 w5 (below_chain HX2.out.2.2.1 hb5')
  refine ⟨rfl, fun _ => ⟨hS5.1, hS5.2.2.1⟩, ?_⟩
  clear hS5
  have HX5 := Lib.hid (And.intro ((hb5'.block R (Array.getElem?_eq_some_iff.1 HX2.out.1).1).trans HX2.out.1) (And.intro ((hb5'.block Q (Array.getElem?_eq_some_iff.1 HX2.out.2.1).1).trans HX2.out.2.1) (And.intro (below_chain HX2.out.2.2.1 hb5') (And.intro (below_chain HX2.out.2.2.2.1 hb5') HX2.out.2.2.2.2))))
  unfold mixN
  clear hb5 hb5' HX2 H4 H3 HL2 HS2 f0 f1 F hNI I
  cases p with
  | true =>
    go_wp2_with fail
    go_ret
    exact ⟨rfl, HX5.out.2.2.2.1⟩
  | false =>
    go_wp2_with fail
    go_loopw [11, 12, 13] (fun vl vm vk wr => ∃ (f m k : Nat) (pre : List Bool) (A : Option Addr) (c : Nat), vl = .slice A pre.length c ∧ vm = .int .i64 m ∧ vk = .int .i64 k ∧ k < m ∧ m ≤ n ∧ Hid (m ≤ f ∧ Mk.ways n n i = pre ++ Mk.ways f m k ∧ Owns wr w5.heap.size 1 (.slice A pre.length c) pre.length (pre.map boolV) ∧ Below w5.heap.size w5 wr)) (fun _ vm _ _ => (intOf vm).toNat)
    case atStart => exact ⟨n, n, i, [], none, 0, rfl, rfl, rfl, hi, Nat.le_refl _, Nat.le_refl _, rfl, Owns.nil _ _ _, Below.refl _ _⟩
    case round =>
      obtain ⟨f, m, k, pre, A, c, rfl, rfl, rfl, hkm, hmn, hI⟩ := hrel
      have hpre : pre.length ≤ 63 := by
        have h1 := congrArg List.length hI.out.2.1
        rw [List.length_append, ← ways_of n i, List.length_map] at h1
        omega
      by_cases hm : 1 < m
      · have hm' : (1 : Int) < (m : Int) := by omega
        have h1 := Mk.half_pos m
        have h2 := Mk.half_lt (n := m) (by omega)
        have hst : Mk.ways f m k = if k < Mk.half m then false :: Mk.ways (f - 1) (Mk.half m) k else true :: Mk.ways (f - 1) (m - Mk.half m) (k - Mk.half m) := by
          obtain ⟨f', rfl⟩ : ∃ f', f = f' + 1 := ⟨f - 1, by have := hI.out.1; omega⟩
          conv => lhs; unfold Mk.ways
          rw [if_pos (by omega)]
          rfl
        have hh := Half_any wr m (by omega)
        obtain ⟨h, hh0⟩ : ∃ h, h = Mk.half m := ⟨_, rfl⟩
        rw [← hh0] at hst hh h1 h2
        have HH := Lib.hid (And.intro hh hst)
        clear hh hst hh0
        by_cases hkh : k < h
        · have hk1 : ¬ (h : Int) ≤ (k : Int) := by omega
          have hk0 : ¬ h ≤ k := by omega
          have hk2 : decide (h ≤ k) = false := decide_eq_false hk0
          have hg := fun (w7 : World) (hg7 : (wr.alloc (.cells #[.bool false] 4)).grownBy w7 (Value.slice A pre.length c).ownBlock) => (hI.out.2.2.2.alloc hI.out.2.2.2.size (.cells #[.bool false] 4)).grown hg7 (by have := hI.out.2.2.2.size; simp; omega) (fun k e => (hI.out.2.2.1.lt k e).1)
          have hbs : w5.heap.size ≤ (wr.alloc (.cells #[.bool false] 4)).heap.size := by have := hI.out.2.2.2.size; simp; omega
          have hsrc : Src Tryd.prog 1 78 (.slice (some ⟨wr.heap.size, 0, none⟩) 1 1) 1 [.bool false] (wr.alloc (.cells #[.bool false] 4)) := src_one Tryd.underlying78 (by rw [cell_of_row _ _ 0 _ _ _ (heap_alloc_new wr _)]; rfl) rfl
          have HI2 := Lib.hid hg
          have HI3 := Lib.hid hbs
          have HI4 := Lib.hid hsrc
          clear hg hbs hsrc
          go_wp2_with (first | (go_at_call 37; (with_reducible refine Calls.mono HH.out.1 ?_); rintro e w' ⟨rfl, rfl⟩) | (at_builtin; refine wpList_append rfl (.tmp 61) (.tmp 65) 78 78 rfl w5.heap.size 4 _ 1 1 Tryd.underlying78 infoBool _ pre.length (pre.map boolV) rfl (by exact hI.out.2.2.1.alloc _) _ 1 [.bool false] rfl HI4.out (by unfold maxLen; omega) (by omega) HI3.out ?_; intro A7 c7 w7 hown7 hg7 hbl7; have HA := Lib.hid (And.intro hown7 hg7); clear hown7 hg7 hbl7))
          go_roundw
          case rel =>
            refine ⟨f - 1, h, k, pre ++ [false], A7, c7, by simp, rfl, rfl, by omega, by omega, ?_⟩
            refine ⟨by have := hI.out.1; omega, ?_, by simpa [boolV] using HA.out.1, HI2.out _ HA.out.2⟩
            rw [hI.out.2.1, HH.out.2, if_pos (by omega)]
            simp
          case measure => simp [intOf]; omega
        · have hk1 : (h : Int) ≤ (k : Int) := by omega
          have hk0 : h ≤ k := by omega
          have hk2 : decide (h ≤ k) = true := decide_eq_true hk0
          have hg := fun (w7 : World) (hg7 : (wr.alloc (.cells #[.bool true] 4)).grownBy w7 (Value.slice A pre.length c).ownBlock) => (hI.out.2.2.2.alloc hI.out.2.2.2.size (.cells #[.bool true] 4)).grown hg7 (by have := hI.out.2.2.2.size; simp; omega) (fun k e => (hI.out.2.2.1.lt k e).1)
          have hbs : w5.heap.size ≤ (wr.alloc (.cells #[.bool true] 4)).heap.size := by have := hI.out.2.2.2.size; simp; omega
          have hsrc : Src Tryd.prog 1 78 (.slice (some ⟨wr.heap.size, 0, none⟩) 1 1) 1 [.bool true] (wr.alloc (.cells #[.bool true] 4)) := src_one Tryd.underlying78 (by rw [cell_of_row _ _ 0 _ _ _ (heap_alloc_new wr _)]; rfl) rfl
          have HI2 := Lib.hid hg
          have HI3 := Lib.hid hbs
          have HI4 := Lib.hid hsrc
          clear hg hbs hsrc
          go_wp2_with (first | (go_at_call 37; (with_reducible refine Calls.mono HH.out.1 ?_); rintro e w' ⟨rfl, rfl⟩) | (at_builtin; refine wpList_append rfl (.tmp 61) (.tmp 65) 78 78 rfl w5.heap.size 4 _ 1 1 Tryd.underlying78 infoBool _ pre.length (pre.map boolV) rfl (by exact hI.out.2.2.1.alloc _) _ 1 [.bool true] rfl HI4.out (by unfold maxLen; omega) (by omega) HI3.out ?_; intro A7 c7 w7 hown7 hg7 hbl7; have HA := Lib.hid (And.intro hown7 hg7); clear hown7 hg7 hbl7))
          go_roundw
          case rel =>
            refine ⟨f - 1, m - h, k - h, pre ++ [true], A7, c7, by simp, by simp; omega, by simp; omega, by omega, by omega, ?_⟩
            refine ⟨by have := hI.out.1; omega, ?_, by simpa [boolV] using HA.out.1, HI2.out _ HA.out.2⟩
            rw [hI.out.2.1, HH.out.2, if_neg (by omega)]
            simp
          case measure => simp [intOf]; omega
      · have hm0 : ¬ (1 : Int) < (m : Int) := by omega
        have hwe : Mk.ways f m k = [] := by
          cases f with
          | zero => rfl
          | succ f => unfold Mk.ways; rw [if_neg (by omega)]
        have hpe : pre = (partsOf n i).map (·.2.2) := by rw [ways_of, hI.out.2.1, hwe, List.append_nil]
        have hlen : pre.length = qs.length := by rw [hpe, List.length_map]; exact H.out.2.2.2.2.2.2.2.1
        have hBw : Below W0.heap.size W0 wr := below_chain' HX5.out.2.2.1 hI.out.2.2.2 (by have := HX5.out.2.2.1.size; omega)
        have hcw := H0.out.2.2.2 wr hBw
        have e63 := hcw.2.1
        have hleft := hI.out.2.2.1
        rw [hlen] at hleft ⊢
        have HE := Lib.hid (And.intro hpe (And.intro hlen (And.intro hBw (And.intro hleft.sees (And.intro hleft.lt (hI.out.2.2.2.mono (Nat.le_refl _)))))))
        clear hwe hpe hlen hBw hcw hleft
        go_wp2_with fail
        obtain ⟨wo, rfl⟩ : ∃ wo : World, wo = wr := ⟨_, rfl⟩
        go_loopw [15] (fun vj wr => ∃ (j : Nat), j ≤ qs.length ∧ vj = .int .i64 j ∧ Hid (∃ x y, Dig x ∧ Dig y ∧ wr.heap[R]? = some (.cells (bytesV x).toArray 24 (0, 0)) ∧ wr.heap[Q]? = some (.cells (bytesV y).toArray 24 (0, 0)) ∧ u = Mk.foundUp Sha.sum (pre.reverse.drop j) (qs.drop j) (rs.drop j) x y ∧ Keeps wo wr (fun b => b = R ∨ b = Q))) (fun vj _ => qs.length - (intOf vj).toNat)
        case atStart => exact ⟨0, Nat.zero_le _, rfl, x0, y0, HL.out.2.2.1, HL.out.2.2.2, (HE.out.2.2.2.2.2.block R (Array.getElem?_eq_some_iff.1 HX5.out.1).1).trans HX5.out.1, (HE.out.2.2.2.2.2.block Q (Array.getElem?_eq_some_iff.1 HX5.out.2.1).1).trans HX5.out.2.1, by simp only [List.drop_zero]; rw [HU.out.2, HE.out.1]; rfl, Keeps.refl _ _⟩
        case round =>
          obtain ⟨j, hj, rfl, hZ⟩ := hrel
          obtain ⟨x, y, dx, dy, zx, zy, hu, hk⟩ := hZ.out
          have hR5 := (Array.getElem?_eq_some_iff.1 HX5.out.1).1
          have hQ5 := (Array.getElem?_eq_some_iff.1 HX5.out.2.1).1
          have hzW0 : Below W0.heap.size W0 wr := HE.out.2.2.1.trans (hk.below HE.out.2.2.1.size (fun b hb e => by have := HX5.out.2.2.2.2.2; have := HX5.out.2.2.2.2.1; omega))
          have hcz := H0.out.2.2.2 wr hzW0
          have hWz := below_chain HX0.out hzW0
          by_cases hlt : j < qs.length
          · obtain ⟨q, qg, qo, qcap, hqj, dq, eq, hqcap, rq⟩ := (H.out.2.2.2.2.2.1.new hWz).cell hlt
            obtain ⟨r, rg, ro, rcap, hrj, dr, er, hrcap, rr⟩ := (H.out.2.2.2.2.2.2.1.new hWz).cell (i := j) (by have := HQ.out; omega)
            have hleft : Sees wr 1 (.slice A qs.length c) qs.length (pre.map boolV) := HE.out.2.2.2.1.same fun b e _ => hk.block b (HE.out.2.2.2.2.1 b e).2 (by have := (HE.out.2.2.2.2.1 b e).1; omega)
            obtain ⟨lg, lo, lcap, el, -, -, hlr⟩ := hleft.holds (by omega)
            obtain ⟨jj, hjj⟩ : ∃ jj, jj = qs.length - 1 - j := ⟨_, rfl⟩
            obtain ⟨bw, hbw⟩ : ∃ bw, pre[jj]? = some bw := ⟨_, List.getElem?_eq_getElem (by rw [HE.out.2.1]; omega)⟩
            have hlc := hlr jj (.bool bw) (by rw [List.getElem?_map, hbw]; rfl)
            have hside : pre.reverse[j]? = some bw := by rw [List.getElem?_reverse (by rw [HE.out.2.1]; exact hlt), HE.out.2.1, ← hjj]; exact hbw
            have hst : u = (collides (Mk.wayB bw x q) (Mk.wayB bw y r) || Mk.foundUp Sha.sum (pre.reverse.drop (j + 1)) (qs.drop (j + 1)) (rs.drop (j + 1)) (Sha.sum (Mk.wayB bw x q)) (Sha.sum (Mk.wayB bw y r))) := by
              rw [hu, drop_at hside, drop_at hqj, drop_at hrj]
              rfl
            rw [HQ.out] at er
            injection eq with eq1 eq2 eq3
            injection er with er1 er2 er3
            injection el with el1 el2 el3
            subst eq1 eq3 er1 er3 el1 el3
            clear eq2 er2 el2
            obtain ⟨tt, htt⟩ : ∃ tt, tt = collides (Mk.wayB bw x q) (Mk.wayB bw y r) := ⟨_, rfl⟩
            rw [← htt] at hst
            have hF4 : Four wr R Q x y qg qo rg ro q r j := ⟨rangeAt_whole zx, rangeAt_whole zy, rq, rr, dx, dy, dq, dr⟩
            have ji : (qs.length : Int) - 1 - (j : Int) = (jj : Int) := by omega
            have ji2 : (jj : Int) < (qs.length : Int) := by omega
            have e63 := hcz.2.1
            have e73 := hcz.2.2.2
            have HZ := Lib.hid (And.intro hzW0 (And.intro hWz (And.intro hst (And.intro hk (And.intro zx zy)))))
            have H4 := Lib.hid hF4
            have HJ := Lib.hid (And.intro hjj htt)
            clear hleft hlr hbw hside hu zx zy hk hcz hWz hst dx dy dq dr rq rr hqj hrj hF4 hzW0 hjj htt
            have j0 : (j : Int) < (qs.length : Int) := by omega
            have hq63 : qs.length ≤ 63 := by have := H.out.2.2.2.2.2.2.2.1; omega
            have hq1 : (1 : Int) ≤ (qs.length : Int) := by omega
            have hq64 : (qs.length : Int) ≤ 63 := by omega
            have qcl : (qs.length : Int) ≤ (qc : Int) := by omega
            go_upto_region 22 with fail
            refine wp_region_quiet_tail_lit 6 (by kernel_rfl) (by kernel_rfl) ?_
            simp only [List.take_succ_cons, List.take_zero, List.drop_succ_cons, List.drop_zero]
            repeat (first | (refine wpQuiet_load_dig rfl (.tmp 94) rfl qg (qo + j * 32) rfl q H4.out.dq.1 (by rintro _ ⟨n, rfl⟩; exact H4.out.c) ?_; simp only [Act.put, List.setIfInBounds_toArray, List.set_cons_succ, List.set_cons_zero]) | (refine wpQuiet_load_dig rfl (.tmp 9) rfl R 0 rfl x H4.out.dx.1 (by rintro _ ⟨n, rfl⟩; exact H4.out.a) ?_; simp only [Act.put, List.setIfInBounds_toArray, List.set_cons_succ, List.set_cons_zero]) | go_big_quiet_step (fail))
            refine wpQuiet_nil ?_
            rintro _ ⟨nn, rfl⟩
            go_wp2_with (go_at_call 39; (with_reducible refine Calls.mono (nodebytes_any _ x q H4.out.dx H4.out.dq) ?_); rintro e w8 ⟨A8, c8, rfl, ho8, hb8⟩; have hb8' : Below wr.heap.size wr w8 := ⟨hb8.os, hb8.tape, hb8.output, hb8.size, hb8.block⟩; have ho8' : Owns w8 wr.heap.size 1 _ _ _ := ho8; have F8 := Lib.hid (H4.out.new hb8'); have G8 := Lib.hid (And.intro ho8' hb8'); have e738 := (hb8'.cell (block_lt_of_cell e73)).trans e73; have e638 := (hb8'.cell (block_lt_of_cell e63)).trans e63; have el8 := (hb8'.cell (block_lt_of_cell hlc)).trans hlc; clear ho8 ho8' hb8 hb8')
            refine wp_region_quiet_tail_lit 6 (by kernel_rfl) (by kernel_rfl) ?_
            simp only [List.take_succ_cons, List.take_zero, List.drop_succ_cons, List.drop_zero]
            repeat (first | (refine wpQuiet_load_dig rfl (.tmp 101) rfl rg (ro + j * 32) rfl r F8.out.dr.1 (by rintro _ ⟨n, rfl⟩; exact F8.out.d) ?_; simp only [Act.put, List.setIfInBounds_toArray, List.set_cons_succ, List.set_cons_zero]) | (refine wpQuiet_load_dig rfl (.tmp 10) rfl Q 0 rfl y F8.out.dy.1 (by rintro _ ⟨n, rfl⟩; exact F8.out.b) ?_; simp only [Act.put, List.setIfInBounds_toArray, List.set_cons_succ, List.set_cons_zero]) | go_big_quiet_step (fail))
            refine wpQuiet_nil ?_
            rintro _ ⟨nn, rfl⟩
            cases bw with
            | false =>
              go_upto_region 27 with (go_at_call 39; (with_reducible refine Calls.mono (nodebytes_any _ y r F8.out.dy F8.out.dr) ?_); rintro e w9 ⟨A9, c9, rfl, ho9, hb9⟩; have hb9' : Below w8.heap.size w8 w9 := ⟨hb9.os, hb9.tape, hb9.output, hb9.size, hb9.block⟩; have ho9' : Owns w9 w8.heap.size 1 _ _ _ := ho9; have F9 := Lib.hid (F8.out.new hb9'); have G9 := Lib.hid (And.intro ho9' hb9'); have e739 := (hb9'.cell (block_lt_of_cell e738)).trans e738; have e639 := (hb9'.cell (block_lt_of_cell e638)).trans e638; have el9 := (hb9'.cell (block_lt_of_cell el8)).trans el8; clear ho9 ho9' hb9 hb9')
              cases tt with
              | true =>
                have hwf : Below wr.heap.size wr w9 := below_chain G8.out.2 G9.out.2
                have hWf := below_chain HZ.out.2.1 hwf
                have hsp := G8.out.1.sees.new G9.out.2
                have hsq := G9.out.1.sees
                have hpy := nodeB_byte F9.out.dx F9.out.dq
                have hqy := nodeB_byte F9.out.dy F9.out.dr
                have hcl := collides_any w9 _ _ (Mk.nodeB x q) (Mk.nodeB y r) (H.out.1.new hWf) hsp hsq hpy.1 hqy.1 hpy.2 hqy.2
                rw [show collides (Mk.nodeB x q) (Mk.nodeB y r) = true from HJ.out.2.symm] at hcl
                have HF := Lib.hid (And.intro hcl (And.intro hwf (And.intro hWf (And.intro hsp (And.intro hsq (And.intro hpy hqy))))))
                clear hcl hwf hWf hsp hsq hpy hqy
                go_wp2_with (go_at_call 44; (with_reducible refine Calls.mono HF.out.1 ?_); rintro e wc ⟨rfl, hbc⟩)
                go_ret
                exact ⟨by rw [HZ.out.2.2.1]; rfl, below_chain HF.out.2.2.1 hbc⟩
              | false =>
                have hwf : Below wr.heap.size wr w9 := below_chain G8.out.2 G9.out.2
                have hWf := below_chain HZ.out.2.1 hwf
                have hsp := G8.out.1.sees.new G9.out.2
                have hsq := G9.out.1.sees
                have hpy := nodeB_byte F9.out.dx F9.out.dq
                have hqy := nodeB_byte F9.out.dy F9.out.dr
                have hcl := collides_any w9 _ _ (Mk.nodeB x q) (Mk.nodeB y r) (H.out.1.new hWf) hsp hsq hpy.1 hqy.1 hpy.2 hqy.2
                rw [show collides (Mk.nodeB x q) (Mk.nodeB y r) = false from HJ.out.2.symm] at hcl
                have HF := Lib.hid (And.intro hcl (And.intro hwf (And.intro hWf (And.intro hsp (And.intro hsq (And.intro hpy hqy))))))
                clear hcl hwf hWf hsp hsq hpy hqy
                have d1 := dig_sum (Mk.nodeB x q)
                have d2 := dig_sum (Mk.nodeB y r)
                obtain ⟨D1, hD1⟩ : ∃ D1, D1 = Sha.sum (Mk.nodeB x q) := ⟨_, rfl⟩
                obtain ⟨D2, hD2⟩ : ∃ D2, D2 = Sha.sum (Mk.nodeB y r) := ⟨_, rfl⟩
                have hs1 := fun (w : World) (hw : Below w9.heap.size w9 w) => sum_any w _ (Mk.nodeB x q) (H.out.1.new (below_chain HF.out.2.2.1 hw)) (HF.out.2.2.2.1.new hw) HF.out.2.2.2.2.2.1.1 HF.out.2.2.2.2.2.1.2
                rw [← hD1] at hs1 d1
                rw [← hD2] at d2
                have HD := Lib.hid (And.intro d1 (And.intro d2 (And.intro hD1 (And.intro hD2 hs1))))
                clear d1 d2 hD1 hD2 hs1
                have hRW : W.heap.size ≤ R := by have := HX5.out.2.2.2.2.2; have := H0.out.1.size; have := HB0.out; omega
                have hRW0 : W0.heap.size ≤ R := HX5.out.2.2.2.2.2
                go_upto_region 30 with (first | (go_at_call 44; (with_reducible refine Calls.mono HF.out.1 ?_); rintro e wc ⟨rfl, hbc⟩; have HC := Lib.hid hbc; clear hbc) | (go_at_call 32; (with_reducible refine Calls.mono (HD.out.2.2.2.2 _ HC.out) ?_); rintro e ws ⟨rfl, hbs⟩; have hbs' := below_chain HC.out hbs; have hzR := (hbs'.block R (block_lt_of_range F9.out.a (by rw [bytesV_length, F9.out.dx.1]; omega))).trans ((HF.out.2.1.block R (Array.getElem?_eq_some_iff.1 HZ.out.2.2.2.2.1).1).trans HZ.out.2.2.2.2.1); have HS := Lib.hid (And.intro hbs' hzR); clear hbs hbs' hzR) | (refine wpList_store_dig rfl (.tmp 9) (.tmp 130) rfl R rfl D1 rfl HD.out.1.1 (bytesV x) HS.out.2 (by rw [bytesV_length, F9.out.dx.1]) ?_))
                change Code.wp _ _ _ _ (ws.setRow R (bytesV D1).toArray)
                obtain ⟨wt, hwt⟩ : ∃ wt, wt = ws.setRow R (bytesV D1).toArray := ⟨_, rfl⟩
                rw [← hwt]
                have hwrs := below_chain' HF.out.2.1 HS.out.1
                have hkt : Keeps wr wt (fun b => b = R ∨ b = Q) := by rw [hwt]; exact (Keeps.new hwrs).setRow (.inl rfl) _
                have htR : wt.heap[R]? = some (.cells (bytesV D1).toArray 24 (0, 0)) := by rw [hwt]; exact setRow_heap _ _ _ _ _ _ HS.out.2
                have htQ : wt.heap[Q]? = some (.cells (bytesV y).toArray 24 (0, 0)) := by rw [hwt, setRow_other _ _ _ _ (by have := HX5.out.2.2.2.2.1; omega)]; exact (hwrs.block Q (Array.getElem?_eq_some_iff.1 HZ.out.2.2.2.2.2).1).trans HZ.out.2.2.2.2.2
                have hWt : Below W.heap.size W wt := by rw [hwt]; exact below_setRow (below_chain HF.out.2.2.1 HS.out.1) _ _ hRW
                have hqs := HF.out.2.2.2.2.1.new HS.out.1
                have hqt : Sees wt 1 _ _ _ := hqs.same (w' := wt) (fun b eb _ => by rw [hwt]; exact setRow_other _ _ _ _ (by have := (G9.out.1.lt b eb).1; have := (Array.getElem?_eq_some_iff.1 HZ.out.2.2.2.2.1).1; have := G8.out.2.size; omega))
                have hs2 := sum_any wt _ (Mk.nodeB y r) (H.out.1.new hWt) hqt HF.out.2.2.2.2.2.2.1 HF.out.2.2.2.2.2.2.2
                rw [← HD.out.2.2.2.1] at hs2
                have HT := Lib.hid (And.intro hs2 (And.intro hkt (And.intro htR htQ)))
                clear hs2 hkt htR htQ hWt hqs hqt hwrs hwt
                go_wp2_with (first | (go_at_call 32; (with_reducible refine Calls.mono HT.out.1 ?_); rintro e wv ⟨rfl, hbv⟩; have HV := Lib.hid (And.intro hbv ((hbv.block Q (Array.getElem?_eq_some_iff.1 HT.out.2.2.2).1).trans HT.out.2.2.2)); clear hbv) | (refine wpList_store_dig rfl (.tmp 10) (.tmp 132) rfl Q rfl D2 rfl HD.out.2.1.1 (bytesV y) HV.out.2 (by rw [bytesV_length, F9.out.dy.1]) ?_))
                go_roundw
                case rel =>
                  refine ⟨j + 1, by omega, by go_num, Lib.hid ⟨D1, D2, HD.out.1, HD.out.2.1, ?_, setRow_heap _ _ _ _ _ _ HV.out.2, ?_, ?_⟩⟩
                  · rw [setRow_other _ _ _ _ (by have := HX5.out.2.2.2.2.1; omega)]; exact (HV.out.1.block R (Array.getElem?_eq_some_iff.1 HT.out.2.2.1).1).trans HT.out.2.2.1
                  · rw [HZ.out.2.2.1, HD.out.2.2.1, HD.out.2.2.2.1, Bool.false_or]; rfl
                  · exact (HZ.out.2.2.2.1.trans (HT.out.2.1.trans (Keeps.new HV.out.1 (S := fun b => b = R ∨ b = Q)) (fun b h => .inl h)) (fun b h => .inl h)).setRow (.inr rfl) _
                case measure => simp [intOf]; omega
            | true =>
              go_wp2_with (go_at_call 39; (with_reducible refine Calls.mono (nodebytes_any _ y r F8.out.dy F8.out.dr) ?_); rintro e w9 ⟨A9, c9, rfl, ho9, hb9⟩; have hb9' : Below w8.heap.size w8 w9 := ⟨hb9.os, hb9.tape, hb9.output, hb9.size, hb9.block⟩; have ho9' : Owns w9 w8.heap.size 1 _ _ _ := ho9; have F9 := Lib.hid (F8.out.new hb9'); have G9 := Lib.hid (And.intro ho9' hb9'); have e739 := (hb9'.cell (block_lt_of_cell e738)).trans e738; have e639 := (hb9'.cell (block_lt_of_cell e638)).trans e638; have el9 := (hb9'.cell (block_lt_of_cell el8)).trans el8; clear ho9 ho9' hb9 hb9')
              refine wp_region_quiet_tail_lit 6 (by kernel_rfl) (by kernel_rfl) ?_
              simp only [List.take_succ_cons, List.take_zero, List.drop_succ_cons, List.drop_zero]
              repeat (first | (refine wpQuiet_load_dig rfl (.tmp 115) rfl qg (qo + j * 32) rfl q F9.out.dq.1 (by rintro _ ⟨n, rfl⟩; exact F9.out.c) ?_; simp only [Act.put, List.setIfInBounds_toArray, List.set_cons_succ, List.set_cons_zero]) | (refine wpQuiet_load_dig rfl (.tmp 9) rfl R 0 rfl x F9.out.dx.1 (by rintro _ ⟨n, rfl⟩; exact F9.out.a) ?_; simp only [Act.put, List.setIfInBounds_toArray, List.set_cons_succ, List.set_cons_zero]) | go_big_quiet_step (fail))
              refine wpQuiet_nil ?_
              rintro _ ⟨nn, rfl⟩
              go_wp2_with (go_at_call 39; (with_reducible refine Calls.mono (nodebytes_any _ q x F9.out.dq F9.out.dx) ?_); rintro e w10 ⟨A10, c10, rfl, ho10, hb10⟩; have hb10' : Below w9.heap.size w9 w10 := ⟨hb10.os, hb10.tape, hb10.output, hb10.size, hb10.block⟩; have ho10' : Owns w10 w9.heap.size 1 _ _ _ := ho10; have F10 := Lib.hid (F9.out.new hb10'); have G10 := Lib.hid (And.intro ho10' hb10'); have e7310 := (hb10'.cell (block_lt_of_cell e739)).trans e739; clear ho10 ho10' hb10 hb10')
              refine wp_region_quiet_tail_lit 6 (by kernel_rfl) (by kernel_rfl) ?_
              simp only [List.take_succ_cons, List.take_zero, List.drop_succ_cons, List.drop_zero]
              repeat (first | (refine wpQuiet_load_dig rfl (.tmp 122) rfl rg (ro + j * 32) rfl r F10.out.dr.1 (by rintro _ ⟨n, rfl⟩; exact F10.out.d) ?_; simp only [Act.put, List.setIfInBounds_toArray, List.set_cons_succ, List.set_cons_zero]) | (refine wpQuiet_load_dig rfl (.tmp 10) rfl Q 0 rfl y F10.out.dy.1 (by rintro _ ⟨n, rfl⟩; exact F10.out.b) ?_; simp only [Act.put, List.setIfInBounds_toArray, List.set_cons_succ, List.set_cons_zero]) | go_big_quiet_step (fail))
              refine wpQuiet_nil ?_
              rintro _ ⟨nn, rfl⟩
              go_upto_region 27 with (go_at_call 39; (with_reducible refine Calls.mono (nodebytes_any _ r y F10.out.dr F10.out.dy) ?_); rintro e w11 ⟨A11, c11, rfl, ho11, hb11⟩; have hb11' : Below w10.heap.size w10 w11 := ⟨hb11.os, hb11.tape, hb11.output, hb11.size, hb11.block⟩; have ho11' : Owns w11 w10.heap.size 1 _ _ _ := ho11; have F11 := Lib.hid (F10.out.new hb11'); have G11 := Lib.hid (And.intro ho11' hb11'); clear ho11 ho11' hb11 hb11')
              cases tt with
              | true =>
                have hwf : Below wr.heap.size wr w11 := below_chain (below_chain (below_chain G8.out.2 G9.out.2) G10.out.2) G11.out.2
                have hWf := below_chain HZ.out.2.1 hwf
                have hsp := G10.out.1.sees.new G11.out.2
                have hsq := G11.out.1.sees
                have hpy := nodeB_byte F11.out.dq F11.out.dx
                have hqy := nodeB_byte F11.out.dr F11.out.dy
                have hcl := collides_any w11 _ _ (Mk.nodeB q x) (Mk.nodeB r y) (H.out.1.new hWf) hsp hsq hpy.1 hqy.1 hpy.2 hqy.2
                rw [show collides (Mk.nodeB q x) (Mk.nodeB r y) = true from HJ.out.2.symm] at hcl
                have HF := Lib.hid (And.intro hcl (And.intro hwf (And.intro hWf (And.intro hsp (And.intro hsq (And.intro hpy hqy))))))
                clear hcl hwf hWf hsp hsq hpy hqy
                go_wp2_with (go_at_call 44; (with_reducible refine Calls.mono HF.out.1 ?_); rintro e wc ⟨rfl, hbc⟩)
                go_ret
                exact ⟨by rw [HZ.out.2.2.1]; rfl, below_chain HF.out.2.2.1 hbc⟩
              | false =>
                have hwf : Below wr.heap.size wr w11 := below_chain (below_chain (below_chain G8.out.2 G9.out.2) G10.out.2) G11.out.2
                have hWf := below_chain HZ.out.2.1 hwf
                have hsp := G10.out.1.sees.new G11.out.2
                have hsq := G11.out.1.sees
                have hpy := nodeB_byte F11.out.dq F11.out.dx
                have hqy := nodeB_byte F11.out.dr F11.out.dy
                have hcl := collides_any w11 _ _ (Mk.nodeB q x) (Mk.nodeB r y) (H.out.1.new hWf) hsp hsq hpy.1 hqy.1 hpy.2 hqy.2
                rw [show collides (Mk.nodeB q x) (Mk.nodeB r y) = false from HJ.out.2.symm] at hcl
                have HF := Lib.hid (And.intro hcl (And.intro hwf (And.intro hWf (And.intro hsp (And.intro hsq (And.intro hpy hqy))))))
                clear hcl hwf hWf hsp hsq hpy hqy
                have d1 := dig_sum (Mk.nodeB q x)
                have d2 := dig_sum (Mk.nodeB r y)
                obtain ⟨D1, hD1⟩ : ∃ D1, D1 = Sha.sum (Mk.nodeB q x) := ⟨_, rfl⟩
                obtain ⟨D2, hD2⟩ : ∃ D2, D2 = Sha.sum (Mk.nodeB r y) := ⟨_, rfl⟩
                have hs1 := fun (w : World) (hw : Below w11.heap.size w11 w) => sum_any w _ (Mk.nodeB q x) (H.out.1.new (below_chain HF.out.2.2.1 hw)) (HF.out.2.2.2.1.new hw) HF.out.2.2.2.2.2.1.1 HF.out.2.2.2.2.2.1.2
                rw [← hD1] at hs1 d1
                rw [← hD2] at d2
                have HD := Lib.hid (And.intro d1 (And.intro d2 (And.intro hD1 (And.intro hD2 hs1))))
                clear d1 d2 hD1 hD2 hs1
                have hRW : W.heap.size ≤ R := by have := HX5.out.2.2.2.2.2; have := H0.out.1.size; have := HB0.out; omega
                have hRW0 : W0.heap.size ≤ R := HX5.out.2.2.2.2.2
                go_upto_region 30 with (first | (go_at_call 44; (with_reducible refine Calls.mono HF.out.1 ?_); rintro e wc ⟨rfl, hbc⟩; have HC := Lib.hid hbc; clear hbc) | (go_at_call 32; (with_reducible refine Calls.mono (HD.out.2.2.2.2 _ HC.out) ?_); rintro e ws ⟨rfl, hbs⟩; have hbs' := below_chain HC.out hbs; have hzR := (hbs'.block R (block_lt_of_range F11.out.a (by rw [bytesV_length, F11.out.dx.1]; omega))).trans ((HF.out.2.1.block R (Array.getElem?_eq_some_iff.1 HZ.out.2.2.2.2.1).1).trans HZ.out.2.2.2.2.1); have HS := Lib.hid (And.intro hbs' hzR); clear hbs hbs' hzR) | (refine wpList_store_dig rfl (.tmp 9) (.tmp 130) rfl R rfl D1 rfl HD.out.1.1 (bytesV x) HS.out.2 (by rw [bytesV_length, F11.out.dx.1]) ?_))
                change Code.wp _ _ _ _ (ws.setRow R (bytesV D1).toArray)
                obtain ⟨wt, hwt⟩ : ∃ wt, wt = ws.setRow R (bytesV D1).toArray := ⟨_, rfl⟩
                rw [← hwt]
                have hwrs := below_chain' HF.out.2.1 HS.out.1
                have hkt : Keeps wr wt (fun b => b = R ∨ b = Q) := by rw [hwt]; exact (Keeps.new hwrs).setRow (.inl rfl) _
                have htR : wt.heap[R]? = some (.cells (bytesV D1).toArray 24 (0, 0)) := by rw [hwt]; exact setRow_heap _ _ _ _ _ _ HS.out.2
                have htQ : wt.heap[Q]? = some (.cells (bytesV y).toArray 24 (0, 0)) := by rw [hwt, setRow_other _ _ _ _ (by have := HX5.out.2.2.2.2.1; omega)]; exact (hwrs.block Q (Array.getElem?_eq_some_iff.1 HZ.out.2.2.2.2.2).1).trans HZ.out.2.2.2.2.2
                have hWt : Below W.heap.size W wt := by rw [hwt]; exact below_setRow (below_chain HF.out.2.2.1 HS.out.1) _ _ hRW
                have hqs := HF.out.2.2.2.2.1.new HS.out.1
                have hqt : Sees wt 1 _ _ _ := hqs.same (w' := wt) (fun b eb _ => by rw [hwt]; exact setRow_other _ _ _ _ (by have := (G11.out.1.lt b eb).1; have := (Array.getElem?_eq_some_iff.1 HZ.out.2.2.2.2.1).1; have := G8.out.2.size; have := G9.out.2.size; have := G10.out.2.size; omega))
                have hs2 := sum_any wt _ (Mk.nodeB r y) (H.out.1.new hWt) hqt HF.out.2.2.2.2.2.2.1 HF.out.2.2.2.2.2.2.2
                rw [← HD.out.2.2.2.1] at hs2
                have HT := Lib.hid (And.intro hs2 (And.intro hkt (And.intro htR htQ)))
                clear hs2 hkt htR htQ hWt hqs hqt hwrs hwt
                go_wp2_with (first | (go_at_call 32; (with_reducible refine Calls.mono HT.out.1 ?_); rintro e wv ⟨rfl, hbv⟩; have HV := Lib.hid (And.intro hbv ((hbv.block Q (Array.getElem?_eq_some_iff.1 HT.out.2.2.2).1).trans HT.out.2.2.2)); clear hbv) | (refine wpList_store_dig rfl (.tmp 10) (.tmp 132) rfl Q rfl D2 rfl HD.out.2.1.1 (bytesV y) HV.out.2 (by rw [bytesV_length, F11.out.dy.1]) ?_))
                go_roundw
                case rel =>
                  refine ⟨j + 1, by omega, by go_num, Lib.hid ⟨D1, D2, HD.out.1, HD.out.2.1, ?_, setRow_heap _ _ _ _ _ _ HV.out.2, ?_, ?_⟩⟩
                  · rw [setRow_other _ _ _ _ (by have := HX5.out.2.2.2.2.1; omega)]; exact (HV.out.1.block R (Array.getElem?_eq_some_iff.1 HT.out.2.2.1).1).trans HT.out.2.2.1
                  · rw [HZ.out.2.2.1, HD.out.2.2.1, HD.out.2.2.2.1, Bool.false_or]; rfl
                  · exact (HZ.out.2.2.2.1.trans (HT.out.2.1.trans (Keeps.new HV.out.1 (S := fun b => b = R ∨ b = Q)) (fun b h => .inl h)) (fun b h => .inl h)).setRow (.inr rfl) _
                case measure => simp [intOf]; omega
          · obtain rfl : j = qs.length := by omega
            have hu0 : u = false := by
              rw [hu, List.drop_of_length_le (show (pre.reverse).length ≤ qs.length by rw [List.length_reverse, HE.out.2.1]; exact Nat.le_refl _)]
              unfold Mk.foundUp
              rfl
            have e63 := hcz.2.1
            have HZ := Lib.hid (And.intro hu0 hWz)
            clear hu zx zy hk hcz hWz hu0 dx dy hzW0
            go_wp2_with fail
            go_ret
            exact ⟨by rw [HZ.out.1]; rfl, HZ.out.2⟩
end Go.Proofs.YtplcjgpmainbnaaDoor.MkW
