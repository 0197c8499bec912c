/- The reference's sha: block. -/
import Derived.Test.YtplcjgpmainbnaaDoorRsK0
set_option linter.unusedVariables false
set_option linter.unusedSimpArgs false
namespace Go.Proofs.YtplcjgpmainbnaaDoor.RsW
open Go.RowKit Sha Bits OwnS ShaW
attribute [local go_sem ↓] Kit.execOp_call_slot
attribute [local go_sem] Kit.callSlot_func
theorem in_below {w : World} {f : FuncId} {args : Array Value} {v : Value} {I : Type} {F : I → World} (hF : ∀ i, Below w.heap.size w (F i)) (hFi : ∀ w', Below w.heap.size w w' → ∃ i, w' = F i) (i : I) (h : Calls Tryd.prog f args (F i) (fun e w' => e = .returned v ∧ Below (F i).heap.size (F i) w')) :
    Calls Tryd.prog f args (F i) (fun e w'' => e = .returned v ∧ ∃ j, w'' = F j) :=
  h.mono fun e w'' ⟨he, hw⟩ => ⟨he, hFi _ ((hF i).trans (hw.mono (hF i).size))⟩
theorem num_nat (x : W32) : num x = ((x.toNat : Nat) : Int) := rfl
theorem w32_le (x : W32) : (x.toNat : Int) ≤ 4294967295 := by have := x.isLt; omega
/-- What a call of three answers, wherever memory below is as it was. -/
theorem three_cls (w : World) (x : Nat) (a b c : Int) (p : Nat) (hx : x < 4294967296) (ha : Turns a) (hb : Turns b) (hc : Turns c) (hp : p = three x a.toNat b.toNat c.toNat false) (I : Type) (F : I → World) (hF : ∀ i, Below w.heap.size w (F i)) (hFi : ∀ w', Below w.heap.size w w' → ∃ i, w' = F i) (i : I) :
    Calls Tryd.prog 59 #[.int .i64 (x : Int), .agg #[.int .i64 a, .int .i64 b, .int .i64 c], .bool false] (F i) (fun e w'' => e = .returned (.int .i64 (p : Int)) ∧ ∃ j, w'' = F j) := by
  subst hp
  exact in_below hF hFi i (three_no x a b c hx ha hb hc _)
theorem three_cls' (w : World) (x : Nat) (a b c : Int) (p : Nat) (hx : x < 4294967296) (ha : Turns a) (hb : Turns b) (hc : c = 3 ∨ c = 10) (hp : p = three x a.toNat b.toNat c.toNat true) (I : Type) (F : I → World) (hF : ∀ i, Below w.heap.size w (F i)) (hFi : ∀ w', Below w.heap.size w w' → ∃ i, w' = F i) (i : I) :
    Calls Tryd.prog 59 #[.int .i64 (x : Int), .agg #[.int .i64 a, .int .i64 b, .int .i64 c], .bool true] (F i) (fun e w'' => e = .returned (.int .i64 (p : Int)) ∧ ∃ j, w'' = F j) := by
  subst hp
  exact in_below hF hFi i (three_yes x a b c hx ha hb hc _)
/-- The numbers of a step's two choices, as the walk meets them. -/
theorem ch_num (e f g : Nat) (he : e < 4294967296) (hf : f < 4294967296) (hg : g < 4294967296) : ∃ p q r : Nat, bits .and .i64 (e : Int) (f : Int) = (p : Int) ∧ bits .and .i64 (4294967295 - (e : Int)) (g : Int) = (q : Int) ∧ bits .xor .i64 (p : Int) (q : Int) = (r : Int) ∧ r = chN e f g ∧ (r : Int) ≤ 4294967295 := by
  have h1 : e &&& f < 2 ^ 32 := Nat.and_lt_two_pow _ (by omega)
  have h2 : (4294967295 - e) &&& g < 2 ^ 32 := Nat.and_lt_two_pow _ (by omega)
  have h3 : (e &&& f) ^^^ ((4294967295 - e) &&& g) < 2 ^ 32 := Nat.xor_lt_two_pow h1 h2
  refine ⟨e &&& f, (4294967295 - e) &&& g, _, and64 e f he hf, ?_, xor64 _ _ (by omega) (by omega), rfl, by omega⟩
  rw [show (4294967295 : Int) - (e : Int) = ((4294967295 - e : Nat) : Int) by omega]
  exact and64 _ g (by omega) hg
theorem maj_num (a b c : Nat) (ha : a < 4294967296) (hb : b < 4294967296) (hc : c < 4294967296) : ∃ p q r m n : Nat, bits .and .i64 (a : Int) (b : Int) = (p : Int) ∧ bits .and .i64 (a : Int) (c : Int) = (q : Int) ∧ bits .and .i64 (b : Int) (c : Int) = (r : Int) ∧ bits .xor .i64 (p : Int) (q : Int) = (m : Int) ∧ bits .xor .i64 (m : Int) (r : Int) = (n : Int) ∧ n = majN a b c ∧ (n : Int) ≤ 4294967295 := by
  have h1 : a &&& b < 2 ^ 32 := Nat.and_lt_two_pow _ (by omega)
  have h2 : a &&& c < 2 ^ 32 := Nat.and_lt_two_pow _ (by omega)
  have h3 : b &&& c < 2 ^ 32 := Nat.and_lt_two_pow _ (by omega)
  have h4 : (a &&& b) ^^^ (a &&& c) < 2 ^ 32 := Nat.xor_lt_two_pow h1 h2
  have h5 : (a &&& b) ^^^ (a &&& c) ^^^ (b &&& c) < 2 ^ 32 := Nat.xor_lt_two_pow h4 h3
  exact ⟨a &&& b, a &&& c, b &&& c, (a &&& b) ^^^ (a &&& c), _, and64 a b ha hb, and64 a c ha hc, and64 b c hb hc, xor64 _ _ (by omega) (by omega), xor64 _ _ (by omega) (by omega), rfl, by omega⟩
theorem n_cells {w : World} {g : Nat} {x : St} {T : TypeId} {a b c d e f i k : Nat} (h : w.heap[g]? = some (.cells (x.list.map i64W).toArray T (0, 0))) (ha : a = x.a.toNat) (hb : b = x.b.toNat) (hc : c = x.c.toNat) (hd : d = x.d.toNat) (he : e = x.e.toNat) (hf : f = x.f.toNat) (hi : i = x.g.toNat) (hk : k = x.h.toNat) :
    w.cell? ⟨g, 0, none⟩ = some (.int .i64 (a : Int)) ∧ w.cell? ⟨g, 1, none⟩ = some (.int .i64 (b : Int)) ∧ w.cell? ⟨g, 2, none⟩ = some (.int .i64 (c : Int)) ∧ w.cell? ⟨g, 3, none⟩ = some (.int .i64 (d : Int)) ∧
    w.cell? ⟨g, 4, none⟩ = some (.int .i64 (e : Int)) ∧ w.cell? ⟨g, 5, none⟩ = some (.int .i64 (f : Int)) ∧ w.cell? ⟨g, 6, none⟩ = some (.int .i64 (i : Int)) ∧ w.cell? ⟨g, 7, none⟩ = some (.int .i64 (k : Int)) := by
  subst ha hb hc hd he hf hi hk
  exact i64_cells h
theorem three_at (x : Nat) (a b c : Int) (p : Nat) (hx : x < 4294967296) (ha : Turns a) (hb : Turns b) (hc : Turns c) (hp : p = three x a.toNat b.toNat c.toNat false) (w : World) :
    Calls Tryd.prog 59 #[.int .i64 (x : Int), .agg #[.int .i64 a, .int .i64 b, .int .i64 c], .bool false] w (fun e w' => e = .returned (.int .i64 (p : Int)) ∧ Below w.heap.size w w') := by
  subst hp
  exact three_no x a b c hx ha hb hc _
def BlockPost (W : World) (s : St) (b : List Nat) (e : Ending) (w' : World) : Prop := e = .returned (.agg ((turn s b).list.map i64W).toArray) ∧ Below W.heap.size W w'
set_option maxRecDepth 100000 in
set_option maxHeartbeats 8000000 in
theorem block_any (W : World) (s : St) (b : List Nat) (g o c : Nat) (hb : b.length = 64) (h256 : ∀ x ∈ b, x < 256)
    (hc : ∀ (j x : Nat), b[j]? = some x → W.cell? ⟨g, o + j, none⟩ = some (.int .u8 (x : Int))) :
    Calls Tryd.prog 51 #[.agg #[i64W s.a, i64W s.b, i64W s.c, i64W s.d, i64W s.e, i64W s.f, i64W s.g, i64W s.h], .slice (some ⟨g, o, none⟩) 64 c] W (BlockPost W s b) := by
  have H := Lib.hid (And.intro hb (And.intro h256 hc))
  clear hb h256 hc
  go_enter Tryd.func51, Tryd.ntmps51
  go_wp2_with fail
  have HT : Hid (R1 W (((W.alloc (.cells #[i64W s.a, i64W s.b, i64W s.c, i64W s.d, i64W s.e, i64W s.f, i64W s.g, i64W s.h] 85)).alloc (.cells (List.replicate 8 z64).toArray 85)).alloc (.cells (List.replicate 64 z64).toArray 98)) s b 0) := by
    refine ⟨(((Below.refl _ _).alloc (Nat.le_refl _) _).alloc (by simp) _).alloc (by simp; omega) _, by simp, ?_, ?_, ?_⟩
    · rw [heap_alloc_old, heap_alloc_old, heap_alloc_new] <;> first | rfl | (simp; done) | (simp; omega)
    · rw [heap_alloc_old]
      have := heap_alloc_new (W.alloc (.cells #[i64W s.a, i64W s.b, i64W s.c, i64W s.d, i64W s.e, i64W s.f, i64W s.g, i64W s.h] 85)) (.cells (List.replicate 8 z64).toArray 85)
      · simpa using this
      · simp
    · have := heap_alloc_new ((W.alloc (.cells #[i64W s.a, i64W s.b, i64W s.c, i64W s.d, i64W s.e, i64W s.f, i64W s.g, i64W s.h] 85)).alloc (.cells (List.replicate 8 z64).toArray 85)) (.cells (List.replicate 64 z64).toArray 98)
      simpa [icells, wordsTo] using this
  go_loopw [6] (fun i wr => ∃ t : Nat, t ≤ 16 ∧ i = .int .i64 t ∧ Hid (R1 W wr s b t)) (fun i _ => 16 - (intOf i).toNat)
  case atStart => exact ⟨0, by omega, rfl, HT⟩
  case round =>
    obtain ⟨t, ht, rfl, hT⟩ := hrel
    by_cases h16 : t < 16
    · have h64 : t < 64 := by omega
      obtain ⟨⟨x0, hx0⟩, ⟨x1, hx1⟩, ⟨x2, hx2⟩, ⟨x3, hx3⟩⟩ : (∃ x, b[4 * t]? = some x) ∧ (∃ x, b[4 * t + 1]? = some x) ∧ (∃ x, b[4 * t + 2]? = some x) ∧ (∃ x, b[4 * t + 3]? = some x) :=
        ⟨⟨_, List.getElem?_eq_getElem (by have := H.out.1; omega)⟩, ⟨_, List.getElem?_eq_getElem (by have := H.out.1; omega)⟩, ⟨_, List.getElem?_eq_getElem (by have := H.out.1; omega)⟩, ⟨_, List.getElem?_eq_getElem (by have := H.out.1; omega)⟩⟩
      have c0 := hT.out.byte H.out.2.2 hx0
      have c1 := hT.out.byte H.out.2.2 hx1
      have c2 := hT.out.byte H.out.2.2 hx2
      have c3 := hT.out.byte H.out.2.2 hx3
      have l0 := H.out.2.1 _ (List.mem_of_getElem? hx0)
      have l1 := H.out.2.1 _ (List.mem_of_getElem? hx1)
      have l2 := H.out.2.1 _ (List.mem_of_getElem? hx2)
      have l3 := H.out.2.1 _ (List.mem_of_getElem? hx3)
      obtain ⟨f1, f2⟩ := hT.out.cell h64
      have HX := Lib.hid (And.intro hx0 (And.intro hx1 (And.intro hx2 hx3)))
      clear hx0 hx1 hx2 hx3
      go_wp2_with fail
      refine QTail.wp_region_quiet_tail_lit 35 (by kernel_rfl) (by kernel_rfl) ?_
      simp only [List.take_succ_cons, List.take_zero, List.drop_succ_cons, List.drop_zero]
      repeat (go_big_quiet_step (fail))
      refine wpQuiet_nil ?_
      intro _ hw'
      obtain ⟨nr, hw''⟩ := hw'
      subst hw''
      go_wp2_with fail
      go_roundw
      case rel =>
        refine ⟨t + 1, by omega, by go_num, ?_⟩
        obtain ⟨hx0, hx1, hx2, hx3⟩ := HX.out
        rw [word_num hx0 hx1 hx2 hx3 l0 l1 l2 l3]
        have hT2 : R1 W (wr.drewN nr) s b t := hT.out.keep ⟨rfl, rfl, rfl, Nat.le_refl _, fun _ _ => rfl⟩
        have := hT2.put h64
        unfold nextW at this
        rw [if_pos h16] at this
        exact this
      case measure => simp [intOf]; omega
    · obtain rfl : t = 16 := by omega
      have HT16 := hT
      go_wp2_with fail
      obtain ⟨wo, rfl⟩ : ∃ wo : World, wo = wr := ⟨_, rfl⟩
      go_loopw [7] (fun i wr => ∃ m : Nat, m ≤ 48 ∧ i = .int .i64 ((m : Int) + 16) ∧ Hid (R1 W wr s b (m + 16))) (fun i _ => 64 - (intOf i).toNat)
      case atStart => exact ⟨0, by omega, rfl, HT16⟩
      case round =>
        obtain ⟨m, hm, rfl, hT⟩ := hrel
        by_cases h48 : m < 48
        · have h64 : m + 16 < 64 := by omega
          have hlt : (m : Int) + 16 < 64 := by omega
          have d0 := hT.out.word (j := m) (by omega)
          have d1 := hT.out.word (j := m + 1) (by omega)
          have d9 := hT.out.word (j := m + 9) (by omega)
          have d14 := hT.out.word (j := m + 14) (by omega)
          have hn := nextW_ref b (wordsTo b (m + 16)) (m + 16) (by omega)
          rw [show m + 16 - 16 = m by omega, show m + 16 - 7 = m + 9 by omega, show m + 16 - 15 = m + 1 by omega, show m + 16 - 2 = m + 14 by omega] at hn
          rw [num_nat] at d0 d1 d9 d14
          have u0 := w32_le ((wordsTo b (m + 16)).getD m 0)
          have u9 := w32_le ((wordsTo b (m + 16)).getD (m + 9) 0)
          have u1 : ((wordsTo b (m + 16)).getD (m + 1) 0).toNat < 4294967296 := ((wordsTo b (m + 16)).getD (m + 1) 0).isLt
          have u14 : ((wordsTo b (m + 16)).getD (m + 14) 0).toNat < 4294967296 := ((wordsTo b (m + 16)).getD (m + 14) 0).isLt
          generalize ((wordsTo b (m + 16)).getD m 0).toNat = v0 at d0 hn u0
          generalize ((wordsTo b (m + 16)).getD (m + 1) 0).toNat = v1 at d1 hn u1
          generalize ((wordsTo b (m + 16)).getD (m + 9) 0).toNat = v9 at d9 hn u9
          generalize ((wordsTo b (m + 16)).getD (m + 14) 0).toNat = v14 at d14 hn u14
          obtain ⟨p1, hp1⟩ : ∃ p, p = three v1 7 18 3 true := ⟨_, rfl⟩
          obtain ⟨p14, hp14⟩ : ∃ p, p = three v14 17 19 10 true := ⟨_, rfl⟩
          have q1 : (p1 : Int) ≤ 4294967295 := by have := three_lt v1 7 18 3 true u1; rw [← hp1] at this; omega
          have q14 : (p14 : Int) ≤ 4294967295 := by have := three_lt v14 17 19 10 true u14; rw [← hp14] at this; omega
          have z0 : (0 : Int) ≤ (v0 : Int) := by omega
          have z9 : (0 : Int) ≤ (v9 : Int) := by omega
          have y1 : (0 : Int) ≤ (p1 : Int) := by omega
          have y14 : (0 : Int) ≤ (p14 : Int) := by omega
          rw [← hp1, ← hp14] at hn
          have call1 := three_cls' wr v1 7 18 3 p1 u1 (by decide) (by decide) (Or.inl rfl) hp1
          have call14 := three_cls' wr v14 17 19 10 p14 u14 (by decide) (by decide) (Or.inr rfl) hp14
          obtain ⟨f1, f2⟩ := hT.out.cell h64
          have hsz : W.heap.size + 2 < wr.heap.size := by have := hT.out.size; omega
          have HC := Lib.hid (And.intro call1 (And.intro call14 hn))
          clear call1 call14 hn hp1 hp14 u1 u14
          go_wp2_with fail
          refine QTail.wp_region_below_tail 26 wr.heap.size (by kernel_rfl) (by kernel_rfl) ?_
          intro I hNI F hF hFi
          have C0 := fun i => ((hF i).cell (p := ⟨W.heap.size + 2, m, none⟩) hsz).trans d0
          have C1 := fun i => ((hF i).cell (p := ⟨W.heap.size + 2, m + 1, none⟩) hsz).trans d1
          have C9 := fun i => ((hF i).cell (p := ⟨W.heap.size + 2, m + 9, none⟩) hsz).trans d9
          have C14 := fun i => ((hF i).cell (p := ⟨W.heap.size + 2, m + 14, none⟩) hsz).trans d14
          have HF := Lib.hid (And.intro (HC.out.1 I F hF hFi) (And.intro (HC.out.2.1 I F hF hFi) hF))
          clear hF hFi
          simp only [List.take_succ_cons, List.take_zero, List.drop_succ_cons, List.drop_zero]
          repeat (go_big_quiet_step (first | (with_reducible exact HF.out.2.1 _) | (with_reducible exact HF.out.1 _)))
          refine wpQuiet_nil ?_
          intro w4 hw'
          obtain ⟨j, hw''⟩ := hw'
          have hT4 : Hid (R1 W w4 s b (m + 16)) := by rw [hw'']; exact hT.out.keep (HF.out.2.2 j)
          clear hw'' C0 C1 C9 C14
          obtain ⟨f1, f2⟩ := hT4.out.cell h64
          go_wp2_with fail
          go_roundw
          case rel =>
            refine ⟨m + 1, by omega, by go_num, ?_⟩
            have h9 := hT4.out.put h64
            have e : num (nextW b (wordsTo b (m + 16)) (m + 16)) = ((p14 : Int) + (v9 : Int) + (p1 : Int) + (v0 : Int)) % 4294967296 := by
              rw [num_nat, HC.out.2.2]
              omega
            unfold i64W at h9
            rw [e] at h9
            rw [show m + 1 + 16 = m + 16 + 1 by omega]
            exact h9
          case measure => simp [intOf]; omega
        · obtain rfl : m = 48 := by omega
          obtain ⟨L, hL⟩ : ∃ L, L = kN := ⟨_, rfl⟩
          have HL := Lib.hid hL
          have hconst := fun w => constants_any w
          rw [← hL] at hconst
          have HCO := Lib.hid hconst
          have hLl : L.length = 64 := by rw [hL]; exact kN_length
          have HLL := Lib.hid hLl
          clear hconst hL hLl
          go_upto_region 11 with (first | (go_at_call 60; (with_reducible refine Calls.mono (HCO.out _) ?_); rintro e w2 ⟨rfl, hb2⟩; have HB2 := Lib.hid hb2; clear hb2) | (refine wpList_store_ints 98 64 row64_size rfl (.tmp 8) (.tmp 85) rfl w2.heap.size rfl L rfl HLL.out zero64 (heap_alloc_new _ _) rfl ?_))
          change Code.wp _ _ _ _ ((w2.alloc (.cells zero64.toArray 98)).setRow w2.heap.size (intsV L).toArray)
          obtain ⟨w3, hw3⟩ : ∃ w3, w3 = (w2.alloc (.cells zero64.toArray 98)).setRow w2.heap.size (intsV L).toArray := ⟨_, rfl⟩
          rw [← hw3]
          have hT2 := hT.out.keep HB2.out
          have hR3 : Hid (R1 W w3 s b 64) := by
            rw [hw3]
            exact hT2.keep (below_setRow ((Below.refl _ _).alloc (Nat.le_refl _) _) _ _ (Nat.le_refl _))
          have hk3 : w3.heap[w2.heap.size]? = some (.cells (intsV kN).toArray 98 (0, 0)) := by
            rw [hw3, ← HL.out]
            exact setRow_heap _ _ _ _ _ _ (heap_alloc_new _ _)
          have hKs := hT2.size
          have hKl : w2.heap.size < w3.heap.size := (Array.getElem?_eq_some_iff.1 hk3).1
          obtain ⟨K, hK⟩ : ∃ K, K = w2.heap.size := ⟨_, rfl⟩
          rw [← hK]
          rw [← hK] at hk3 hKs hKl
          have HK := Lib.hid (And.intro hk3 (And.intro hKs hKl))
          clear hk3 hKs hKl hw3 hK
          obtain ⟨c0, c1, c2, c3, c4, c5, c6, c7⟩ := i64_cells hR3.out.st
          simp only [Act.put]
          go_upto_region 12 with (fail)
          change Code.wp _ _ _ _ (w3.alloc (.cells (s.list.map i64W).toArray 85))
          obtain ⟨w4, hw4⟩ : ∃ w4, w4 = w3.alloc (.cells (s.list.map i64W).toArray 85) := ⟨_, rfl⟩
          rw [← hw4]
          obtain ⟨B, hB⟩ : ∃ B, B = w3.heap.size := ⟨_, rfl⟩
          rw [← hB]
          have hR4 : Hid (R2 W w4 s b K B (stepsTo s (wordsTo b 64) 0).list) := by
            have hA : Below w3.heap.size w3 w4 := by rw [hw4]; exact (Below.refl _ _).alloc (Nat.le_refl _) _
            have hR := hR3.out.keep hA
            exact ⟨hR.below, HK.out.2.1, by rw [hB]; exact HK.out.2.2, by rw [hw4, hB]; simp, hR.st, hR.res, hR.ws, (hA.block _ HK.out.2.2).trans HK.out.1, by rw [hw4, hB]; exact heap_alloc_new _ _⟩
          clear c0 c1 c2 c3 c4 c5 c6 c7 hw4 hB
          go_wp2_with fail
          go_loopw [10] (fun i wr => ∃ t : Nat, t ≤ 64 ∧ i = .int .i64 t ∧ Hid (R2 W wr s b K B (stepsTo s (wordsTo b 64) t).list)) (fun i _ => 64 - (intOf i).toNat)
          case atStart => exact ⟨0, by omega, rfl, hR4⟩
          case round =>
            obtain ⟨t, ht, rfl, hT⟩ := hrel
            by_cases h64 : t < 64
            · obtain ⟨x, hx⟩ : ∃ x, x = stepsTo s (wordsTo b 64) t := ⟨_, rfl⟩
              obtain ⟨kk, hkk⟩ : ∃ x, x = consts.getD t 0 := ⟨_, rfl⟩
              obtain ⟨ww, hww⟩ : ∃ x, x = (wordsTo b 64).getD t 0 := ⟨_, rfl⟩
              rw [← hx] at hT
              obtain ⟨c0, c1, c2, c3, c4, c5, c6, c7⟩ := i64_cells hT.out.cur
              have dk := hT.out.const h64
              have dw := hT.out.word h64
              rw [← hkk] at dk
              rw [← hww] at dw
              rw [num_nat] at c0 c1 c2 c3 c4 c5 c6 c7 dk dw
              obtain ⟨na, hna⟩ : ∃ n, n = x.a.toNat := ⟨_, rfl⟩
              obtain ⟨nb, hnb⟩ : ∃ n, n = x.b.toNat := ⟨_, rfl⟩
              obtain ⟨nc, hnc⟩ : ∃ n, n = x.c.toNat := ⟨_, rfl⟩
              obtain ⟨nd, hnd⟩ : ∃ n, n = x.d.toNat := ⟨_, rfl⟩
              obtain ⟨ne, hne⟩ : ∃ n, n = x.e.toNat := ⟨_, rfl⟩
              obtain ⟨nf, hnf⟩ : ∃ n, n = x.f.toNat := ⟨_, rfl⟩
              obtain ⟨ng, hng⟩ : ∃ n, n = x.g.toNat := ⟨_, rfl⟩
              obtain ⟨nh, hnh⟩ : ∃ n, n = x.h.toNat := ⟨_, rfl⟩
              obtain ⟨nk, hnk⟩ : ∃ n, n = kk.toNat := ⟨_, rfl⟩
              obtain ⟨nw, hnw⟩ : ∃ n, n = ww.toNat := ⟨_, rfl⟩
              rw [← hna] at c0
              rw [← hnb] at c1
              rw [← hnc] at c2
              rw [← hnd] at c3
              rw [← hne] at c4
              rw [← hnf] at c5
              rw [← hng] at c6
              rw [← hnh] at c7
              rw [← hnk] at dk
              rw [← hnw] at dw
              have ua : na < 4294967296 := by rw [hna]; exact x.a.isLt
              have ub : nb < 4294967296 := by rw [hnb]; exact x.b.isLt
              have uc : nc < 4294967296 := by rw [hnc]; exact x.c.isLt
              have ud : nd < 4294967296 := by rw [hnd]; exact x.d.isLt
              have ue : ne < 4294967296 := by rw [hne]; exact x.e.isLt
              have uf : nf < 4294967296 := by rw [hnf]; exact x.f.isLt
              have ug : ng < 4294967296 := by rw [hng]; exact x.g.isLt
              have uh : nh < 4294967296 := by rw [hnh]; exact x.h.isLt
              have uk : nk < 4294967296 := by rw [hnk]; exact kk.isLt
              have uw : nw < 4294967296 := by rw [hnw]; exact ww.isLt
              obtain ⟨ch1, ch2, CH, k1, k2, k3, hCH, uCH⟩ := ch_num ne nf ng ue uf ug
              obtain ⟨m1, m2, m3, m4, MJ, j1, j2, j3, j4, j5, hMJ, uMJ⟩ := maj_num na nb nc ua ub uc
              obtain ⟨P1, hP1⟩ : ∃ p, p = three ne 6 11 25 false := ⟨_, rfl⟩
              obtain ⟨P0, hP0⟩ : ∃ p, p = three na 2 13 22 false := ⟨_, rfl⟩
              have uP1 : P1 < 4294967296 := by rw [hP1]; exact three_lt _ _ _ _ _ ue
              have uP0 : P0 < 4294967296 := by rw [hP0]; exact three_lt _ _ _ _ _ ua
              have call1 := fun w => three_cls w ne 6 11 25 P1 ue (by decide) (by decide) (by decide) hP1
              have call0 := three_at na 2 13 22 P0 ua (by decide) (by decide) (by decide) hP0
              have HC1 := Lib.hid call1
              have HC0 := Lib.hid call0
              have HX := Lib.hid (And.intro hx (And.intro hkk (And.intro hww (And.intro hna (And.intro hnb (And.intro hnc (And.intro hnd (And.intro hne (And.intro hnf (And.intro hng (And.intro hnh (And.intro hnk (And.intro hnw (And.intro hCH (And.intro hMJ (And.intro hP1 hP0))))))))))))))))
              have ia : (na : Int) ≤ 4294967295 := by omega
              have ib : (nb : Int) ≤ 4294967295 := by omega
              have ic : (nc : Int) ≤ 4294967295 := by omega
              have id' : (nd : Int) ≤ 4294967295 := by omega
              have ie : (ne : Int) ≤ 4294967295 := by omega
              have ih : (nh : Int) ≤ 4294967295 := by omega
              have ik : (nk : Int) ≤ 4294967295 := by omega
              have iw : (nw : Int) ≤ 4294967295 := by omega
              have iP1 : (P1 : Int) ≤ 4294967295 := by omega
              have iP0 : (P0 : Int) ≤ 4294967295 := by omega
              have za : (0 : Int) ≤ (na : Int) := by omega
              have zd : (0 : Int) ≤ (nd : Int) := by omega
              have ze : (0 : Int) ≤ (ne : Int) := by omega
              have zh : (0 : Int) ≤ (nh : Int) := by omega
              have zk : (0 : Int) ≤ (nk : Int) := by omega
              have zw : (0 : Int) ≤ (nw : Int) := by omega
              have zP1 : (0 : Int) ≤ (P1 : Int) := by omega
              have zP0 : (0 : Int) ≤ (P0 : Int) := by omega
              have zCH : (0 : Int) ≤ (CH : Int) := by omega
              have zMJ : (0 : Int) ≤ (MJ : Int) := by omega
              have hB := hT.out.hB
              have hK0 := hT.out.hK
              have hs0 := hT.out.size
              have HS := Lib.hid (And.intro (show W.heap.size + 2 < wr.heap.size by omega) (And.intro (show K < wr.heap.size by omega) hs0))
              clear call1 call0 hx hkk hww hna hnb hnc hnd hne hnf hng hnh hnk hnw hCH hMJ hP1 hP0 ua ub uc ud ue uf ug uh uk uw uP1 uP0 hB hK0 hs0
              go_upto_region 17 with (fail)
              refine QTail.wp_region_below wr.heap.size (by kernel_rfl) (by kernel_rfl) ?_
              intro I hNI F hF hFi
              have C7 := fun i => ((hF i).cell (p := ⟨B, 7, none⟩) HS.out.2.2).trans c7
              have C4 := fun i => ((hF i).cell (p := ⟨B, 4, none⟩) HS.out.2.2).trans c4
              have CK := fun i => ((hF i).cell (p := ⟨K, t, none⟩) HS.out.2.1).trans dk
              have CW := fun i => ((hF i).cell (p := ⟨W.heap.size + 2, t, none⟩) HS.out.1).trans dw
              have HF := Lib.hid (And.intro (HC1.out wr I F hF hFi) hF)
              clear hF hFi
              repeat (go_big_quiet_step (exact HF.out.1 _))
              refine wpQuiet_nil ?_
              intro w5 hw'
              obtain ⟨j, hw''⟩ := hw'
              have hT5 : Hid (R2 W w5 s b K B x.list) := by rw [hw'']; exact hT.out.keep (HF.out.2 j)
              clear hw'' C7 C4 CK CW c0 c1 c2 c3 c4 c5 c6 c7 dk dw
              obtain ⟨-, -, -, qa, qb, qc, qd, qe, qf, qg, qh, -⟩ := HX.out
              obtain ⟨c0, c1, c2, c3, c4, c5, c6, c7⟩ := n_cells hT5.out.cur qa qb qc qd qe qf qg qh
              have HQ := Lib.hid (And.intro qa (And.intro qb (And.intro qc (And.intro qd (And.intro qe (And.intro qf (And.intro qg qh)))))))
              clear qa qb qc qd qe qf qg qh
              go_upto_region 19 with (go_at_call 59; (with_reducible refine Calls.mono (HC0.out _) ?_); rintro e w6 ⟨rfl, hb6⟩; have HB6 := Lib.hid hb6; clear hb6)
              have hT6 : Hid (R2 W w6 s b K B x.list) := hT5.out.keep HB6.out
              clear c0 c1 c2 c3 c4 c5 c6 c7
              obtain ⟨qa, qb, qc, qd, qe, qf, qg, qh⟩ := HQ.out
              obtain ⟨c0, c1, c2, c3, c4, c5, c6, c7⟩ := n_cells hT6.out.cur qa qb qc qd qe qf qg qh
              clear qa qb qc qd qe qf qg qh
              obtain ⟨f0, f1, f2, f3, f4, f5, f6, f7⟩ := row_frozen8 hT6.out.cur
              go_wp2_with fail
              go_roundw
              case rel =>
                refine ⟨t + 1, by omega, by go_num, ?_⟩
                obtain ⟨hx, hkk, hww, hna, hnb, hnc, hnd, hne, hnf, hng, hnh, hnk, hnw, hCH, hMJ, hP1, hP0⟩ := HX.out
                have e : stepsTo s (wordsTo b 64) (t + 1) = Sha.step x kk ww := by rw [hx, hkk, hww]; rfl
                have h9 := hT6.out.put8 (Sha.step x kk ww)
                have eA : num (Sha.step x kk ww).a = ((nh : Int) + P1 + CH + nk + nw + ((P0 : Int) + MJ)) % 4294967296 := by
                  rw [num_nat, step_a, sumP, sumQ, ← hna, ← hnb, ← hnc, ← hne, ← hnf, ← hng, ← hnh, ← hnk, ← hnw, ← hP1, ← hP0, ← hCH, ← hMJ]
                  omega
                have eE : num (Sha.step x kk ww).e = ((nd : Int) + ((nh : Int) + P1 + CH + nk + nw)) % 4294967296 := by
                  rw [num_nat, step_e, sumP, ← hnd, ← hne, ← hnf, ← hng, ← hnh, ← hnk, ← hnw, ← hP1, ← hCH]
                  omega
                have eB : num (Sha.step x kk ww).b = (na : Int) := by rw [hna]; rfl
                have eC : num (Sha.step x kk ww).c = (nb : Int) := by rw [hnb]; rfl
                have eD : num (Sha.step x kk ww).d = (nc : Int) := by rw [hnc]; rfl
                have eF : num (Sha.step x kk ww).f = (ne : Int) := by rw [hne]; rfl
                have eG : num (Sha.step x kk ww).g = (nf : Int) := by rw [hnf]; rfl
                have eH : num (Sha.step x kk ww).h = (ng : Int) := by rw [hng]; rfl
                rw [eA, eB, eC, eD, eE, eF, eG, eH] at h9
                rw [e]
                exact h9
              case measure => simp [intOf]; omega
            · obtain rfl : t = 64 := by omega
              obtain ⟨x, hx⟩ : ∃ x, x = stepsTo s (wordsTo b 64) 64 := ⟨_, rfl⟩
              rw [← hx] at hT
              have HX := Lib.hid hx
              clear hx
              go_wp2_with fail
              obtain ⟨wo3, rfl⟩ : ∃ wo3 : World, wo3 = wr := ⟨_, rfl⟩
              go_loopw [15] (fun i wr => ∃ t : Nat, t ≤ 8 ∧ i = .int .i64 t ∧ Hid (R2 W wr s b K B (mix x s t))) (fun i _ => 8 - (intOf i).toNat)
              case atStart => exact ⟨0, by omega, rfl, hT⟩
              case round =>
                obtain ⟨t, ht, rfl, hT⟩ := hrel
                by_cases h8 : t < 8
                · have c0 := hT.out.curAt (mix_get x s h8)
                  have c1 := hT.out.stAt (list_get s h8)
                  have f0 := frozen_of_row _ _ t _ _ hT.out.cur
                  obtain ⟨va, hva⟩ : ∃ x' : W32, x' = x.list.getD t 0 := ⟨_, rfl⟩
                  obtain ⟨vb, hvb⟩ : ∃ x' : W32, x' = s.list.getD t 0 := ⟨_, rfl⟩
                  rw [← hva, num_nat] at c0
                  rw [← hvb, num_nat] at c1
                  have ua := w32_le va
                  have ub := w32_le vb
                  obtain ⟨na, hna⟩ : ∃ n, n = va.toNat := ⟨_, rfl⟩
                  obtain ⟨nb, hnb⟩ : ∃ n, n = vb.toNat := ⟨_, rfl⟩
                  rw [← hna] at c0 ua
                  rw [← hnb] at c1 ub
                  have za : (0 : Int) ≤ (na : Int) := by omega
                  have zb : (0 : Int) ≤ (nb : Int) := by omega
                  have HV := Lib.hid (And.intro hva (And.intro hvb (And.intro hna hnb)))
                  clear hva hvb hna hnb
                  go_wp2_with fail
                  refine QTail.wp_region_quiet_tail_lit 10 (by kernel_rfl) (by kernel_rfl) ?_
                  simp only [List.take_succ_cons, List.take_zero, List.drop_succ_cons, List.drop_zero]
                  repeat (go_big_quiet_step (fail))
                  refine wpQuiet_nil ?_
                  intro _ hw'
                  obtain ⟨nr, hw''⟩ := hw'
                  subst hw''
                  go_wp2_with fail
                  go_roundw
                  case rel =>
                    refine ⟨t + 1, by omega, by go_num, ?_⟩
                    obtain ⟨hva, hvb, hna, hnb⟩ := HV.out
                    have hTr : R2 W (wr.drewN nr) s b K B (mix x s t) := hT.out.keep ⟨rfl, rfl, rfl, Nat.le_refl _, fun _ _ => rfl⟩
                    have h9 := hTr.put t (va + vb)
                    rw [← add_bits, num_nat, num_nat, ← hna, ← hnb] at h9
                    rw [hva, hvb, mix_set x s h8] at h9
                    exact h9
                  case measure => simp [intOf]; omega
                · obtain rfl : t = 8 := by omega
                  obtain ⟨c0, c1, c2, c3, c4, c5, c6, c7⟩ := i64_cells (s := x.add s) (T := 85) hT.out.cur
                  obtain ⟨f0, f1, f2, f3, f4, f5, f6, f7⟩ := row_frozen8 hT.out.res
                  obtain ⟨d0, d1, d2, d3, d4, d5, d6, d7⟩ := izero_cells hT.out.res
                  go_wp2_with fail
                  have hT8 := hT.out.res8 (x.add s)
                  refine bodyPost_ret (results_cell_row (by rfl) _ _ (W.heap.size + 1) 85 ((x.add s).list.map i64W).toArray (0, 0) _ (by rfl) hT8.1 Tryd.underlying85 (by rfl) (by kernel_rfl)) rfl ⟨?_, hT8.2⟩
                  rw [HX.out]
                  rfl
end Go.Proofs.YtplcjgpmainbnaaDoor.RsW
