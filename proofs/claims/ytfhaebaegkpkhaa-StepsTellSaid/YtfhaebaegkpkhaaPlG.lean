/- model.Check: what is wrong with what is asked for. · model.Check, steps.Plan.Check, right, Places. -/
import Derived.Test.YtfhaebaegkpkhaaByt
import Derived.Test.YtfhaebaegkpkhaaModAt
import Derived.Test.YtfhaebaegkpkhaaCfg
import Derived.Test.YtfhaebaegkpkhaaPlace
set_option linter.unusedVariables false
set_option linter.unusedSimpArgs false
namespace Go.Proofs.Ytfhaebaegkpkhaa.Pln
open Go.RowKit OwnS Byt Cfg
attribute [local go_sem ↓] Kit.execOp_call_slot
attribute [local go_sem] Kit.callSlot_func
/-- No token. -/
def badTok (v t : Int) : Prop := t < 0 ∨ v ≤ t
instance (v t : Int) : Decidable (badTok v t) := by unfold badTok; infer_instance
theorem tok_any (W : World) (B : Nat) (v t : Int) (hc : W.cell? ⟨B, 0, none⟩ = some (.int .i64 v)) : Calls Try.prog 107 #[.int .i64 t, .pointer (some ⟨B, 0, none⟩)] W fun e w' => e = .returned (.bool (decide (badTok v t))) ∧ W = w' := by
  by_cases h0 : t < 0
  · have hb : decide (badTok v t) = true := decide_eq_true (.inl h0)
    have HB := Lib.hid hb
    clear hb
    go_enter Try.func107, Try.ntmps107
    go_wp2_with fail
    go_ret
    exact ⟨by rw [HB.out]; rfl, rfl⟩
  · by_cases h1 : v ≤ t
    · have hb : decide (badTok v t) = true := decide_eq_true (.inr h1)
      have HB := Lib.hid hb
      clear hb
      go_enter Try.func107, Try.ntmps107
      go_wp2_with fail
      go_ret
      exact ⟨by rw [HB.out]; rfl, rfl⟩
    · have hb : decide (badTok v t) = false := decide_eq_false (by unfold badTok; omega)
      have HB := Lib.hid hb
      clear hb
      go_enter Try.func107, Try.ntmps107
      go_wp2_with fail
      go_ret
      exact ⟨by rw [HB.out]; rfl, rfl⟩
set_option maxRecDepth 100000 in
set_option maxHeartbeats 2000000 in
theorem idx_any (W : World) (vv : Value) (l : List Int) (h : Ints W vv l) (B : Nat) (v : Int) (hc : W.cell? ⟨B, 0, none⟩ = some (.int .i64 v)) (hl : l.length ≤ 1000000) :
    Calls Try.prog 112 #[vv, .func (.func 107) #[] #[.pointer (some ⟨B, 0, none⟩)]] W fun e w' => ∃ r : Int, e = .returned (.int .i64 r) ∧ (0 ≤ r ↔ ∃ t ∈ l, badTok v t) ∧ W = w' := by
  obtain ⟨A, c, rfl, -, -⟩ := Sees.form h
  obtain ⟨n, hn⟩ : ∃ n, n = l.length := ⟨_, rfl⟩
  have H := Lib.hid (And.intro h (And.intro hn hc))
  rw [← hn] at hl ⊢
  clear h hn
  go_enter Try.func112, Try.ntmps112
  go_wp2_with fail
  go_loopw [8] (fun vi wr => ∃ k : Nat, k ≤ n ∧ vi = .int .i64 k ∧ Hid ((∀ j t, j < k → l[j]? = some t → ¬ badTok v t) ∧ wr = W)) (fun vi _ => n - (intOf vi).toNat)
  case atStart => exact ⟨0, Nat.zero_le _, rfl, Lib.hid ⟨by intro j t hj; omega, rfl⟩⟩
  case round =>
    obtain ⟨k, hk, rfl, hI⟩ := hrel
    obtain ⟨hall, rfl⟩ := hI.out
    have HI := Lib.hid hall
    clear hI hall
    by_cases hlt : k < n
    · have hkl : k < l.length := by have := H.out.2.1; omega
      have hse : Sees wr 1 (.slice A n c) n (intsV l) := by have h7 := H.out.1; unfold Ints at h7; rw [← H.out.2.1] at h7; exact h7
      obtain ⟨g, o, rfl⟩ := some_addr hse (by omega)
      obtain ⟨t, ht⟩ : ∃ t, l[k]? = some t := ⟨_, List.getElem?_eq_getElem hkl⟩
      have ce := Sees.int hse ht
      have i1 : (k : Int) < (n : Int) := by omega
      have i2 : (0 : Int) ≤ (k : Int) := by omega
      have i3 : (k : Int) ≤ 1000000 := by omega
      have HT := Lib.hid (And.intro ht (tok_any wr B v t hc))
      clear ht hse hkl
      by_cases hb : badTok v t
      · have hd : decide (badTok v t) = true := decide_eq_true hb
        have HB := Lib.hid hb
        rw [hd] at HT
        clear hb hd
        go_wp2_with (go_at_call 107; (with_reducible refine Calls.mono HT.out.2 ?_); rintro e w2 ⟨rfl, rfl⟩)
        try (rw [Exit.noGoto_ret])
        go_ret
        exact ⟨_, rfl, ⟨fun _ => ⟨t, List.mem_of_getElem? HT.out.1, HB.out⟩, fun _ => by omega⟩, rfl⟩
      · have hd : decide (badTok v t) = false := decide_eq_false hb
        have HB := Lib.hid hb
        rw [hd] at HT
        clear hb hd
        go_wp2_with (go_at_call 107; (with_reducible refine Calls.mono HT.out.2 ?_); rintro e w2 ⟨rfl, rfl⟩)
        go_roundw
        case rel =>
          refine ⟨k + 1, by omega, by go_num, fun j u hj hu => ?_, trivial⟩
          by_cases hjk : j = k
          · subst hjk
            have := HT.out.1.symm.trans hu
            injection this with this
            subst this
            exact HB.out
          · exact HI.out j u (by omega) hu
        case measure => simp [intOf]; omega
    · obtain rfl : n = k := by omega
      go_wp2_with fail
      try (rw [Exit.noGoto_ret])
      go_ret
      refine ⟨_, rfl, ⟨fun h => absurd h (by decide), fun ⟨t, ht, hb⟩ => ?_⟩, rfl⟩
      obtain ⟨j, hj, e⟩ := List.getElem_of_mem ht
      exact absurd hb (HI.out j t (by have := H.out.2.1; omega) (by rw [List.getElem?_eq_getElem hj, e]))
set_option maxRecDepth 100000 in
theorem contains_any (W : World) (vv : Value) (l : List Int) (h : Ints W vv l) (B : Nat) (v : Int) (hc : W.cell? ⟨B, 0, none⟩ = some (.int .i64 v)) (hl : l.length ≤ 1000000) :
    Calls Try.prog 78 #[vv, .func (.func 107) #[] #[.pointer (some ⟨B, 0, none⟩)]] W fun e w' => e = .returned (.bool (decide (∃ t ∈ l, badTok v t))) ∧ W = w' := by
  have hi := idx_any W vv l h B v hc hl
  obtain ⟨A, c, rfl, -, -⟩ := Sees.form h
  obtain ⟨n, hn⟩ : ∃ n, n = l.length := ⟨_, rfl⟩
  rw [← hn] at hi ⊢
  have HI := Lib.hid hi
  clear hi h hc hl hn
  go_enter Try.func78, Try.ntmps78
  go_wp2_with (go_at_call 112; (with_reducible refine Calls.mono HI.out ?_); rintro e w2 ⟨r, rfl, hr, rfl⟩; have HR := Lib.hid hr; clear hr)
  go_ret
  refine ⟨?_, rfl⟩
  by_cases h : ∃ t ∈ l, badTok v t
  · have h0 := HR.out.2 h
    rw [decide_eq_true h]
    simp [h0]
  · have h0 : ¬ 0 ≤ r := fun h' => h (HR.out.1 h')
    rw [decide_eq_false h]
    simp [h0]
def modelErr (c : C6) (l : List Int) (limit K : Int) : Int :=
  if c.chk ≠ 0 then c.chk else if l.length = 0 ∨ limit < 1 then 13 else if c.c < l.length ∨ c.c - l.length < limit then 20 else if (∃ t ∈ l, badTok c.v t) ∨ K < 1 ∨ c.v < K then 10 else 0
end Go.Proofs.Ytfhaebaegkpkhaa.Pln
set_option linter.unusedVariables false
set_option linter.unusedSimpArgs false
namespace Go.Proofs.Ytfhaebaegkpkhaa.Pln
open Go.RowKit OwnS Byt Cfg
attribute [local go_sem ↓] Kit.execOp_call_slot
attribute [local go_sem] Kit.callSlot_func
set_option maxRecDepth 100000 in
set_option maxHeartbeats 4000000 in
theorem mcheck_any (W : World) (c : C6) (askL : List Value) (pv : Value) (l : List Int) (hin : Ints W pv l) (hl : l.length ≤ 100000) (K limit : Int) (h0 : askL[0]? = some pv) (h33 : askL[33]? = some (.int .i64 K)) (h34 : askL[34]? = some (.int .i64 limit)) :
    Calls Try.prog 75 #[.agg #[.int .i64 c.v, .int .i64 c.d, .int .i64 c.h, .int .i64 c.l, .int .i64 c.c, .int .i64 c.x], .agg askL.toArray] W fun e w' => e = .returned (.int .i64 (modelErr c l limit K)) ∧ Below W.heap.size W w' := by
  obtain ⟨A, cp, rfl, -, -⟩ := Sees.form hin
  obtain ⟨w2, hw2⟩ : ∃ w2, w2 = (W.alloc (.cells #[.int .i64 c.v, .int .i64 c.d, .int .i64 c.h, .int .i64 c.l, .int .i64 c.c, .int .i64 c.x] 23)).alloc (.cells askL.toArray 80) := ⟨_, rfl⟩
  have hb2 : Below W.heap.size W w2 := by rw [hw2]; exact ((Below.refl _ _).alloc (Nat.le_refl _) _).alloc (by simp) _
  have hcf : w2.heap[W.heap.size]? = some (.cells [Value.int .i64 c.v, .int .i64 c.d, .int .i64 c.h, .int .i64 c.l, .int .i64 c.c, .int .i64 c.x].toArray 23 (0, 0)) := by rw [hw2, Below.heap_alloc _ _ _ (by simp)]; exact heap_alloc_new W _
  have hask : w2.heap[W.heap.size + 1]? = some (.cells askL.toArray 80 (0, 0)) := by
    rw [hw2]
    have := heap_alloc_new (W.alloc (.cells #[.int .i64 c.v, .int .i64 c.d, .int .i64 c.h, .int .i64 c.l, .int .i64 c.c, .int .i64 c.x] 23)) (.cells askL.toArray 80)
    simpa using this
  have c0 : w2.cell? ⟨W.heap.size, 0, none⟩ = some (.int .i64 c.v) := by rw [cell_of_row _ _ 0 _ _ _ hcf]; rfl
  have c1 : w2.cell? ⟨W.heap.size, 1, none⟩ = some (.int .i64 c.d) := by rw [cell_of_row _ _ 1 _ _ _ hcf]; rfl
  have c2 : w2.cell? ⟨W.heap.size, 2, none⟩ = some (.int .i64 c.h) := by rw [cell_of_row _ _ 2 _ _ _ hcf]; rfl
  have c3 : w2.cell? ⟨W.heap.size, 3, none⟩ = some (.int .i64 c.l) := by rw [cell_of_row _ _ 3 _ _ _ hcf]; rfl
  have c4 : w2.cell? ⟨W.heap.size, 4, none⟩ = some (.int .i64 c.c) := by rw [cell_of_row _ _ 4 _ _ _ hcf]; rfl
  have c5 : w2.cell? ⟨W.heap.size, 5, none⟩ = some (.int .i64 c.x) := by rw [cell_of_row _ _ 5 _ _ _ hcf]; rfl
  have hck := check_any c w2
  have hfr : ∀ w, Below w2.heap.size w2 w → (w.cell? ⟨W.heap.size, 0, none⟩ = some (.int .i64 c.v) ∧ w.cell? ⟨W.heap.size, 4, none⟩ = some (.int .i64 c.c)) ∧ w.cell? ⟨W.heap.size + 1, 0, none⟩ = some (.slice A l.length cp) ∧ w.cell? ⟨W.heap.size + 1, 33, none⟩ = some (.int .i64 K) ∧ w.cell? ⟨W.heap.size + 1, 34, none⟩ = some (.int .i64 limit) := fun w hb => by
    have k1 := (hb.block _ (Array.getElem?_eq_some_iff.1 hcf).1).trans hcf
    have k2 := (hb.block _ (Array.getElem?_eq_some_iff.1 hask).1).trans hask
    refine ⟨⟨by rw [cell_of_row _ _ 0 _ _ _ k1]; rfl, by rw [cell_of_row _ _ 4 _ _ _ k1]; rfl⟩, ?_, ?_, ?_⟩
    · rw [cell_of_row _ _ 0 _ _ _ k2]; simpa using h0
    · rw [cell_of_row _ _ 33 _ _ _ k2]; simpa using h33
    · rw [cell_of_row _ _ 34 _ _ _ k2]; simpa using h34
  have hcon := fun w (hb : Below w2.heap.size w2 w) => contains_any w (.slice A l.length cp) l (hin.new (below_chain hb2 hb)) W.heap.size c.v (hfr w hb).1.1 (by omega)
  obtain ⟨E, hE⟩ : ∃ E, E = modelErr c l limit K := ⟨_, rfl⟩
  rw [← hE]
  obtain ⟨n, hn⟩ : ∃ n, n = l.length := ⟨_, rfl⟩
  unfold modelErr at hE
  rw [← hn] at hE hfr hcon hl
  have HW := Lib.hid hw2
  have HC := Lib.hid (And.intro hb2 (And.intro hfr hcon))
  clear hw2 hb2 hfr hcon hcf hask h0 h33 h34 hin hn
  by_cases e1 : c.chk = 0
  · rw [e1] at hck
    rw [if_neg (by simpa using e1)] at hE
    obtain ⟨-, -, -, -, ⟨g4, g5⟩, -⟩ := bounds_of e1
    have HK := Lib.hid hck
    clear hck e1
    by_cases e2 : n = 0 ∨ limit < 1
    · rw [if_pos e2] at hE
      have HE := Lib.hid hE
      clear hE
      rcases (show n = 0 ∨ (¬ n = 0 ∧ limit < 1) by omega) with e2 | ⟨e2, e3⟩
      · subst e2
        go_enter Try.func75, Try.ntmps75
        go_upto_region 1 with fail
        rw [← HW.out]
        go_wp2_with (go_at_call 58; (with_reducible refine Calls.mono HK.out ?_); rintro e w3 ⟨rfl, hb3⟩; obtain ⟨⟨d0, d4⟩, d5, d6, d7⟩ := HC.out.2.1 w3 hb3; have HB := Lib.hid hb3; clear hb3 c0 c1 c2 c3 c4 c5)
        all_goals (try (exfalso; omega))
        go_ret
        exact ⟨by rw [HE.out]; rfl, below_chain HC.out.1 HB.out⟩
      · have e4 : ¬ (n : Int) = 0 := by omega
        have e5 : (1 : Int) ≤ (n : Int) := by omega
        go_enter Try.func75, Try.ntmps75
        go_upto_region 1 with fail
        rw [← HW.out]
        go_wp2_with (go_at_call 58; (with_reducible refine Calls.mono HK.out ?_); rintro e w3 ⟨rfl, hb3⟩; obtain ⟨⟨d0, d4⟩, d5, d6, d7⟩ := HC.out.2.1 w3 hb3; have HB := Lib.hid hb3; clear hb3 c0 c1 c2 c3 c4 c5)
        all_goals (try (exfalso; omega))
        go_ret
        exact ⟨by rw [HE.out]; rfl, below_chain HC.out.1 HB.out⟩
    · rw [if_neg e2] at hE
      have e4 : ¬ (n : Int) = 0 := by omega
      have e5 : (1 : Int) ≤ (n : Int) := by omega
      have e6 : ¬ limit < 1 := by omega
      have e7 : ¬ n = 0 := by omega
      have e8 : (n : Int) ≤ 100000 := by omega
      clear e2
      by_cases e3 : c.c < (n : Int) ∨ c.c - (n : Int) < limit
      · rw [if_pos e3] at hE
        have HE := Lib.hid hE
        clear hE
        rcases (show c.c < (n : Int) ∨ (¬ c.c < (n : Int) ∧ c.c - (n : Int) < limit) by omega) with f1 | ⟨f1, f2⟩
        all_goals
          clear e3
          go_enter Try.func75, Try.ntmps75
          go_upto_region 1 with fail
          rw [← HW.out]
          go_wp2_with (go_at_call 58; (with_reducible refine Calls.mono HK.out ?_); rintro e w3 ⟨rfl, hb3⟩; obtain ⟨⟨d0, d4⟩, d5, d6, d7⟩ := HC.out.2.1 w3 hb3; have HB := Lib.hid hb3; clear hb3 c0 c1 c2 c3 c4 c5)
          all_goals (try (exfalso; omega))
          go_ret
          exact ⟨by rw [HE.out]; rfl, below_chain HC.out.1 HB.out⟩
      · rw [if_neg e3] at hE
        have f1 : ¬ c.c < (n : Int) := by omega
        have f2 : limit ≤ c.c - (n : Int) := by omega
        have f4 : (n : Int) ≤ c.c := by omega
        clear e3 f1
        obtain ⟨b, hb⟩ : ∃ b : Bool, b = decide (∃ t ∈ l, badTok c.v t) := ⟨_, rfl⟩
        have hbE : (∃ t ∈ l, badTok c.v t) ↔ b = true := by rw [hb, decide_eq_true_eq]
        simp only [← hb] at HC
        have HBE := Lib.hid hbE
        clear hb hbE
        cases b with
        | true =>
          rw [if_pos (.inl (HBE.out.2 rfl))] at hE
          have HE := Lib.hid hE
          clear hE
          go_enter Try.func75, Try.ntmps75
          go_upto_region 1 with fail
          rw [← HW.out]
          go_wp2_with (first | (go_at_call 58; (with_reducible refine Calls.mono HK.out ?_); rintro e w3 ⟨rfl, hb3⟩; obtain ⟨⟨d0, d4⟩, d5, d6, d7⟩ := HC.out.2.1 w3 hb3; have HB := Lib.hid hb3; clear hb3 c0 c1 c2 c3 c4 c5) | (go_at_call 78; (with_reducible refine Calls.mono (HC.out.2.2 w3 HB.out) ?_); rintro e w4 ⟨rfl, rfl⟩))
          all_goals (try (exfalso; omega))
          go_ret
          exact ⟨by rw [HE.out]; rfl, below_chain HC.out.1 HB.out⟩
        | false =>
          by_cases k1 : K < 1
          · rw [if_pos (.inr (.inl k1))] at hE
            have HE := Lib.hid hE
            clear hE
            go_enter Try.func75, Try.ntmps75
            go_upto_region 1 with fail
            rw [← HW.out]
            go_wp2_with (first | (go_at_call 58; (with_reducible refine Calls.mono HK.out ?_); rintro e w3 ⟨rfl, hb3⟩; obtain ⟨⟨d0, d4⟩, d5, d6, d7⟩ := HC.out.2.1 w3 hb3; have HB := Lib.hid hb3; clear hb3 c0 c1 c2 c3 c4 c5) | (go_at_call 78; (with_reducible refine Calls.mono (HC.out.2.2 w3 HB.out) ?_); rintro e w4 ⟨rfl, rfl⟩))
            all_goals (try (exfalso; omega))
            go_ret
            exact ⟨by rw [HE.out]; rfl, below_chain HC.out.1 HB.out⟩
          · by_cases k2 : c.v < K
            · rw [if_pos (.inr (.inr k2))] at hE
              have HE := Lib.hid hE
              clear hE
              go_enter Try.func75, Try.ntmps75
              go_upto_region 1 with fail
              rw [← HW.out]
              go_wp2_with (first | (go_at_call 58; (with_reducible refine Calls.mono HK.out ?_); rintro e w3 ⟨rfl, hb3⟩; obtain ⟨⟨d0, d4⟩, d5, d6, d7⟩ := HC.out.2.1 w3 hb3; have HB := Lib.hid hb3; clear hb3 c0 c1 c2 c3 c4 c5) | (go_at_call 78; (with_reducible refine Calls.mono (HC.out.2.2 w3 HB.out) ?_); rintro e w4 ⟨rfl, rfl⟩))
              all_goals (try (exfalso; omega))
              go_ret
              exact ⟨by rw [HE.out]; rfl, below_chain HC.out.1 HB.out⟩
            · rw [if_neg (by rintro (h | h | h); exact absurd (HBE.out.1 h) (by decide); exact k1 h; exact k2 h)] at hE
              have HE := Lib.hid hE
              clear hE
              go_enter Try.func75, Try.ntmps75
              go_upto_region 1 with fail
              rw [← HW.out]
              go_wp2_with (first | (go_at_call 58; (with_reducible refine Calls.mono HK.out ?_); rintro e w3 ⟨rfl, hb3⟩; obtain ⟨⟨d0, d4⟩, d5, d6, d7⟩ := HC.out.2.1 w3 hb3; have HB := Lib.hid hb3; clear hb3 c0 c1 c2 c3 c4 c5) | (go_at_call 78; (with_reducible refine Calls.mono (HC.out.2.2 w3 HB.out) ?_); rintro e w4 ⟨rfl, rfl⟩))
              all_goals (try (exfalso; omega))
              go_ret
              exact ⟨by rw [HE.out]; rfl, below_chain HC.out.1 HB.out⟩
  · rw [if_pos e1] at hE
    obtain ⟨q, hq⟩ : ∃ q, q = c.chk := ⟨_, rfl⟩
    rw [← hq] at hck hE e1
    have e1' : (q == 0) = false := by simpa using e1
    have HK := Lib.hid hck
    have HE := Lib.hid hE
    clear hck hE hq
    go_enter Try.func75, Try.ntmps75
    go_upto_region 1 with fail
    rw [← HW.out]
    go_wp2_with (go_at_call 58; (with_reducible refine Calls.mono HK.out ?_); rintro e w3 ⟨rfl, hb3⟩; obtain ⟨⟨d0, d4⟩, d5, d6, d7⟩ := HC.out.2.1 w3 hb3; have HB := Lib.hid hb3; clear hb3 c0 c1 c2 c3 c4 c5)
    all_goals (try (exfalso; omega))
    go_ret
    exact ⟨by rw [HE.out]; rfl, below_chain HC.out.1 HB.out⟩
end Go.Proofs.Ytfhaebaegkpkhaa.Pln
