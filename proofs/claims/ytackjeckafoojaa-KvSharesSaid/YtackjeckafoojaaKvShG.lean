/- KvShares at the inputs that are looked at. -/
import Derived.Test.YtackjeckafoojaaKvSh2
namespace Go.Proofs.Ytackjeckafoojaa.KvI
open Go.RowKit Kv
attribute [local go_sem ↓] Kit.execOp_call_slot
attribute [local go_sem] Kit.callSlot_func

set_option maxRecDepth 100000 in
set_option maxHeartbeats 4000000 in
theorem shares_good (W : World) (p z c d : Nat) (hp : 1 ≤ p ∧ p ≤ 12) (hz : 1 ≤ z ∧ z ≤ 8) (hc : c ≤ 60) (hd : d ≤ c) (v0 v1 : Value) (l0 l1 : List Int) (h0 : RdA W v0 l0) (h1 : RdA W v1 l1) (hl0 : l0.length ≤ 20) (hl1 : l1.length ≤ 20) :
    Calls Try.prog 4 #[.agg #[.int .i64 (p : Int), .int .i64 (z : Int)], .agg #[.int .i64 (c : Int), .int .i64 (d : Int)], .agg #[v0, v1]] W fun e w' => e = .returned (.bool true) ∧ Below W.heap.size W w' := by
  obtain ⟨A0, c0, rfl⟩ := h0.form
  obtain ⟨A1, c1, rfl⟩ := h1.form
  have hok : okTwo (p : Int) (z : Int) = true := by simp [okTwo]; omega
  have HR := Lib.hid (fun w => right_run w (p : Int) (z : Int))
  have HN := Lib.hid (fun w => sh_new w p z (by omega) (by omega))
  have HL := Lib.hid (And.intro h0 h1)
  have HP := Lib.hid (And.intro hp hz)
  have g1 : ¬ (c : Int) < 0 := by omega
  have g2 : ¬ 60 < (c : Int) := by omega
  have g2' : (c : Int) ≤ 60 := by omega
  have g3 : ¬ (d : Int) < 0 := by omega
  have g4 : ¬ (c : Int) < (d : Int) := by omega
  have g4' : (d : Int) ≤ (c : Int) := by omega
  have g5 : ¬ (20 : Int) < (l0.length : Int) := by omega
  have g5' : (l0.length : Int) ≤ 20 := by omega
  have g6 : ¬ (20 : Int) < (l1.length : Int) := by omega
  have g6' : (l1.length : Int) ≤ 20 := by omega
  have HE : ∀ w1, w1 = (((W.alloc (.cells #[.int .i64 (p : Int), .int .i64 (z : Int)] 22)).alloc (.cells #[.int .i64 (c : Int), .int .i64 (d : Int)] 22)).alloc (.cells #[.slice A0 l0.length c0, .slice A1 l1.length c1] 46)).alloc (.cells #[.int .i64 (p : Int), .int .i64 (z : Int)] 22) →
      ShEnv W w1 p z c d (.slice A0 l0.length c0) (.slice A1 l1.length c1) := by
    rintro w1 rfl
    have e0 : (W.alloc (.cells #[.int .i64 (p : Int), .int .i64 (z : Int)] 22)).heap.size = W.heap.size + 1 := by simp
    have e1 : ((W.alloc (.cells #[.int .i64 (p : Int), .int .i64 (z : Int)] 22)).alloc (.cells #[.int .i64 (c : Int), .int .i64 (d : Int)] 22)).heap.size = W.heap.size + 1 + 1 := by simp
    refine ⟨?_, by simp, ?_, ?_, ?_⟩
    · exact ((((Below.refl W.heap.size W).alloc (Nat.le_refl _) _).alloc (by simp) _).alloc (by simp; omega) _).alloc (by simp; omega) _
    · rw [Below.heap_alloc _ _ _ (by simp; omega), Below.heap_alloc _ _ _ (by simp; omega), Below.heap_alloc _ _ _ (by simp)]
      exact heap_alloc_new _ _
    · rw [Below.heap_alloc _ _ _ (by simp), Below.heap_alloc _ _ _ (by simp), ← e0]
      exact heap_alloc_new _ _
    · rw [Below.heap_alloc _ _ _ (by simp), ← e1]
      exact heap_alloc_new _ _
  have HE := Lib.hid HE
  obtain ⟨i0, hi, hz0, hz1, hz2⟩ := info_parts infoE
  have HI := Lib.hid (And.intro hi (And.intro hz0 (And.intro hz1 hz2)))
  clear hi hz0 hz1 hz2
  clear h0 h1 hp hz
  go_enter Try.func4, Try.ntmps4
  go_wp2_with fail
  with_reducible refine Calls.mono (HR.out _) ?_
  rintro e w1 ⟨rfl, hw⟩
  rw [hok]
  have hE := HE.out w1 hw
  clear hw
  obtain ⟨p0, p1, q0, q1, r0, r1⟩ := hE.cells
  have HE1 := Lib.hid hE
  clear hE
  have HF := Lib.hid (And.intro (inv_new (α := Int) p z ⟨HP.out.1.1, by have := HP.out.1.2; omega⟩ ⟨HP.out.2.1, by have := HP.out.2.2; omega⟩) (first_start p z ⟨HP.out.1.1, by have := HP.out.1.2; omega⟩ ⟨HP.out.2.1, by have := HP.out.2.2; omega⟩))
  go_wp2_with fail
  with_reducible refine Calls.mono (HN.out w1) ?_
  rintro e w2 ⟨rfl, h2⟩
  obtain ⟨p0, p1, q0, q1, r0, r1⟩ := (HE1.out.keep HE1.out.size h2.below).cells
  have H2 := Lib.hid h2
  clear h2
  go_wp2_with fail
  with_reducible refine Calls.mono (sh_open H2.out HF.out.1) ?_
  rintro e w3 ⟨rfl, h3⟩
  obtain ⟨p0, p1, q0, q1, r0, r1⟩ := (HE1.out.keep HE1.out.size h3.below).cells
  have H3 := Lib.hid h3
  clear h3
  generalize ((emptyP Int p z).open_ [] 0).2.1 = x1
  generalize ((emptyP Int p z).open_ [] 0).2.2 = x2
  go_wp2_with fail
  go_loopw [9, 10] (fun vn vi wr => ∃ (n k : Nat) (s : PSt Int), vn = .int .i64 n ∧ vi = .int .i64 k ∧ k ≤ c ∧ n ≤ k ∧ Hid (First s n k) ∧ Hid (Sh w1 (w1.heap.size + 2) wr s (.slice none 0 0) (.slice none 0 0) [] []))
    (fun _ vi _ => c - (intOf vi).toNat)
  case atStart => exact ⟨0, 0, _, rfl, rfl, Nat.zero_le _, Nat.le_refl _, Lib.hid HF.out.2, H3⟩
  case round =>
    obtain ⟨n, k, s, rfl, rfl, hk, hn, hF, hS⟩ := hrel
    obtain ⟨p0, p1, q0, q1, r0, r1⟩ := (HE1.out.keep HE1.out.size hS.out.below).cells
    have n1 : (n : Int) ≤ 60 := by omega
    have k1 : (k : Int) ≤ 60 := by omega
    by_cases hlt : k < c
    · have hlt' : (k : Int) < (c : Int) := by omega
      have HA := Lib.hid (sh_append hS.out hF.out.inv 0 (k : Int))
      rcases first_step hF.out with ⟨h0, hF'⟩ | ⟨he, hF'⟩
      · have hF' := Lib.hid hF'
        have h0 := Lib.hid h0
        go_wp2_with fail
        with_reducible refine Calls.mono HA.out ?_
        rintro e w4 ⟨rfl, h4⟩
        rw [h0.out]
        obtain ⟨p0, p1, q0, q1, r0, r1⟩ := (HE1.out.keep HE1.out.size h4.below).cells
        have H4 := Lib.hid h4
        clear h4
        go_wp2_with fail
        go_roundw
        case rel => exact ⟨n + 1, k + 1, _, by go_num, by go_num, by omega, by omega, hF', H4⟩
        case measure => simp [intOf]; omega
      · have hF' := Lib.hid hF'
        rw [he] at HA
        go_wp2_with fail
        with_reducible refine Calls.mono HA.out ?_
        rintro e w4 ⟨rfl, h4⟩
        obtain ⟨p0, p1, q0, q1, r0, r1⟩ := (HE1.out.keep HE1.out.size h4.below).cells
        have H4 := Lib.hid h4
        clear h4
        go_wp2_with fail
        go_roundw
        case rel => exact ⟨n, k + 1, _, rfl, by go_num, by omega, by omega, hF', H4⟩
        case measure => simp [intOf]; omega
    · have hlt' : ¬ (k : Int) < (c : Int) := by omega
      have HA := Lib.hid (sh_free hS.out hF.out.inv)
      go_wp2_with fail
      with_reducible refine Calls.mono HA.out ?_
      rintro e w4 ⟨rfl, h4⟩
      obtain ⟨p0, p1, q0, q1, r0, r1⟩ := (HE1.out.keep HE1.out.size h4.below).cells
      have HS := Lib.hid (sh_share h4 hF.out.inv 0 (d : Int))
      by_cases hdn : d ≤ n
      · obtain ⟨hs1, hs2, hs3⟩ := two_share hF.out hdn
        obtain ⟨s', hs'⟩ : ∃ s', s' = (s.share 0 (d : Int)).1 := ⟨_, rfl⟩
        rw [← hs'] at hs1 hs2 hs3
        rw [hs1] at HS
        clear hs1
        have hdn' : ¬ (n : Int) < (d : Int) := by omega
        have HT := Lib.hid (show Two s' (upTo n) (upTo d) from hs3)
        clear hs3 hs'
        go_wp2_with fail
        with_reducible refine Calls.mono HS.out ?_
        rintro e w5 ⟨rfl, h5⟩
        obtain ⟨p0, p1, q0, q1, r0, r1⟩ := (HE1.out.keep HE1.out.size h5.below).cells
        have HA2 := Lib.hid (sh_free h5 HT.out.inv)
        rw [hs2] at HA2
        clear h5 hs2
        go_wp2_with fail
        with_reducible refine Calls.mono HA2.out ?_
        rintro e w6 ⟨rfl, h6⟩
        obtain ⟨p0, p1, q0, q1, r0, r1⟩ := (HE1.out.keep HE1.out.size h6.below).cells
        have H6 := Lib.hid h6
        clear h6
        go_wp2_with fail
        go_loopw [14, 15, 16] (fun va vb vi wr => ∃ (k m : Nat), vi = .int .i64 k ∧ k ≤ n ∧ ((m = k ∧ k ≤ d) ∨ (m = d ∧ d ≤ k)) ∧ Hid (Sh w1 (w1.heap.size + 2) wr s' va vb (upTo k) (upTo m)))
          (fun _ _ vi _ => n - (intOf vi).toNat)
        case atStart => exact ⟨0, 0, rfl, Nat.zero_le _, .inl ⟨rfl, Nat.zero_le _⟩, H6⟩
        case round =>
          clear p0 p1 q0 q1 r0 r1
          obtain ⟨j, m, rfl, hj, hm, hS⟩ := hrel
          obtain ⟨p0, p1, q0, q1, r0, r1⟩ := (HE1.out.keep HE1.out.size hS.out.below).cells
          have oa := hS.out.oa
          have ob := hS.out.ob
          rw [upTo_length] at oa ob
          obtain ⟨A, cp, rfl⟩ := own_form oa
          obtain ⟨A', cp', rfl⟩ := own_form ob
          have OA := Lib.hid oa
          have OB := Lib.hid ob
          clear oa ob
          have j1 : (j : Int) ≤ 60 := by omega
          by_cases hlt : j < n
          · have hlt' : (j : Int) < (n : Int) := by omega
            by_cases hjd : j < d
            · have hjd' : (j : Int) < (d : Int) := by omega
              obtain rfl : j = m := by omega
              go_wp2_with (first | (at_builtin; refine wpList_append_own_at _ (by rfl) (.tmp 133) (.tmp 135) 42 (by rfl) w1.heap.size 3 i0 _ 1 8 Try.underlying42 HI.out.1 HI.out.2.1 HI.out.2.2.1 HI.out.2.2.2 (by rfl) (by decide) _ j _ (by rfl) (by exact own_lit (W := wr) rfl _ OA.out) _ 1 1 [.int .i64 j] (by rfl) (by rfl) (cell_one_new _ _ _) (by intro u hu; rw [List.mem_singleton] at hu; subst hu; exact enc_one _) (by unfold maxLen; omega) (by omega) (by have := hS.out.below.size; simp; omega) ?_; intro v' w9 hownN hgrow _ hat; have hA := hS.out.app0 rfl rfl rfl rfl (upTo_length j) hownN hgrow hat; rw [upTo_succ] at hA; obtain ⟨A2, cp2, rfl⟩ := own_form hownN; obtain ⟨p0, p1, q0, q1, r0, r1⟩ := (HE1.out.keep HE1.out.size hA.below).cells; have ob3 := hA.ob; rw [upTo_length] at ob3; have OB3 := Lib.hid ob3; have HA3 := Lib.hid hA; clear hownN hgrow hat hA ob3) | (at_builtin; refine wpList_append_own_at _ (by rfl) (.tmp 141) (.tmp 143) 42 (by rfl) w1.heap.size 3 i0 _ 1 8 Try.underlying42 HI.out.1 HI.out.2.1 HI.out.2.2.1 HI.out.2.2.2 (by rfl) (by decide) _ j _ (by rfl) (by exact own_lit (W := w9) rfl _ OB3.out) _ 1 1 [.int .i64 j] (by rfl) (by rfl) (cell_one_new _ _ _) (by intro u hu; rw [List.mem_singleton] at hu; subst hu; exact enc_one _) (by unfold maxLen; omega) (by omega) (by have := HA3.out.below.size; simp; omega) ?_; intro v4 w10 hownN hgrow _ hat; have hB := HA3.out.app1 rfl rfl rfl rfl (upTo_length j) hownN hgrow hat; rw [upTo_succ] at hB; obtain ⟨A4, cp4, rfl⟩ := own_form hownN; have HB3 := Lib.hid hB; clear hownN hgrow hat hB))
              go_roundw
              case rel => exact ⟨j + 1, j + 1, by go_num, by omega, .inl ⟨rfl, by omega⟩, HB3⟩
              case measure => simp [intOf]; omega
            · have hjd' : ¬ (j : Int) < (d : Int) := by omega
              obtain rfl : d = m := by omega
              go_wp2_with ((at_builtin; refine wpList_append_own_at _ (by rfl) (.tmp 133) (.tmp 135) 42 (by rfl) w1.heap.size 3 i0 _ 1 8 Try.underlying42 HI.out.1 HI.out.2.1 HI.out.2.2.1 HI.out.2.2.2 (by rfl) (by decide) _ j _ (by rfl) (by exact own_lit (W := wr) rfl _ OA.out) _ 1 1 [.int .i64 j] (by rfl) (by rfl) (cell_one_new _ _ _) (by intro u hu; rw [List.mem_singleton] at hu; subst hu; exact enc_one _) (by unfold maxLen; omega) (by omega) (by have := hS.out.below.size; simp; omega) ?_; intro v' w9 hownN hgrow _ hat; have hA := hS.out.app0 rfl rfl rfl rfl (upTo_length j) hownN hgrow hat; rw [upTo_succ] at hA; obtain ⟨A2, cp2, rfl⟩ := own_form hownN; obtain ⟨p0, p1, q0, q1, r0, r1⟩ := (HE1.out.keep HE1.out.size hA.below).cells; have ob3 := hA.ob; rw [upTo_length] at ob3; have OB3 := Lib.hid ob3; have HA3 := Lib.hid hA; clear hownN hgrow hat hA ob3))
              go_roundw
              case rel => exact ⟨j + 1, d, by go_num, by omega, .inr ⟨rfl, by omega⟩, HA3⟩
              case measure => simp [intOf]; omega
          · have hlt' : ¬ (j : Int) < (n : Int) := by omega
            obtain rfl : j = n := by omega
            obtain rfl : m = d := by omega
            clear OA OB
            go_wp2_with fail
            go_loopw [14, 15, 17] (fun va vb vi wr => ∃ (k : Nat) (s : PSt Int) (a b : List Int), vi = .int .i64 k ∧ k ≤ 20 ∧ a.length ≤ 60 + k ∧ b.length ≤ 60 + k ∧ Hid (Two s a b) ∧ Hid (Sh w1 (w1.heap.size + 2) wr s va vb a b))
              (fun _ _ vi _ => 20 - (intOf vi).toNat)
            case atStart => exact ⟨0, s', _, _, rfl, by omega, by rw [upTo_length]; omega, by rw [upTo_length]; omega, HT, hS⟩
            case round =>
              clear p0 p1 q0 q1 r0 r1 hS
              obtain ⟨k, s, a, b, rfl, hk, hla, hlb, hT, hS⟩ := hrel
              obtain ⟨p0, p1, q0, q1, r0, r1⟩ := (HE1.out.keep HE1.out.size hS.out.below).cells
              have oa := hS.out.oa
              have ob := hS.out.ob
              obtain ⟨A, cp, rfl⟩ := own_form oa
              obtain ⟨A', cp', rfl⟩ := own_form ob
              clear oa ob
              have k1 : (k : Int) ≤ 20 := by omega
              by_cases hlt : k < 20
              · have hlt' : (k : Int) < 20 := by omega
                by_cases hl0k : k < l0.length
                · by_cases hl1k : k < l1.length
                  · have hl0k' : (k : Int) < (l0.length : Int) := by omega
                    obtain ⟨x, hx⟩ : ∃ x, l0[k]? = some x := ⟨_, List.getElem?_eq_getElem hl0k⟩
                    have Hx := Lib.hid hx
                    clear hx
                    obtain ⟨ad0, cp0, e', -⟩ := HL.out.1.cell k x Hx.out
                    injection e' with e1 _ e3
                    subst e1
                    subst e3
                    have hl1k' : (k : Int) < (l1.length : Int) := by omega
                    obtain ⟨y, hy⟩ : ∃ y, l1[k]? = some y := ⟨_, List.getElem?_eq_getElem hl1k⟩
                    have Hy := Lib.hid hy
                    clear hy
                    obtain ⟨ad1, cp1, e', -⟩ := HL.out.2.cell k y Hy.out
                    injection e' with e1 _ e3
                    subst e1
                    subst e3
                    have x0 := (HL.out.1.below (HE1.out.keep HE1.out.size hS.out.below).below).at Hx.out
                    have y0 := (HL.out.2.below (HE1.out.keep HE1.out.size hS.out.below).below).at Hy.out
                    have HA := Lib.hid (sh_append hS.out hT.out.inv 0 x)
                    rcases two_app0 hT.out x with ⟨h0', hT0⟩ | he0
                    · have HT0 := Lib.hid hT0
                      have h0' := Lib.hid h0'
                      clear hT0
                      go_wp2_with fail
                      with_reducible refine Calls.mono HA.out ?_
                      rintro e w4 ⟨rfl, h4⟩
                      rw [h0'.out]
                      clear p0 p1 q0 q1 r0 r1 x0 y0
                      obtain ⟨p0, p1, q0, q1, r0, r1⟩ := (HE1.out.keep HE1.out.size h4.below).cells
                      have x0 := (HL.out.1.below (HE1.out.keep HE1.out.size h4.below).below).at Hx.out
                      have y0 := (HL.out.2.below (HE1.out.keep HE1.out.size h4.below).below).at Hy.out
                      have H4 := Lib.hid h4
                      clear h4
                      go_wp2_with (at_builtin; refine wpList_append_own_at _ (by rfl) (.tmp 164) (.tmp 170) 42 (by rfl) w1.heap.size 3 i0 _ 1 8 Try.underlying42 HI.out.1 HI.out.2.1 HI.out.2.2.1 HI.out.2.2.2 (by rfl) (by decide) _ a.length _ (by rfl) (by exact own_lit (W := w4) rfl _ H4.out.oa) _ 1 1 [.int .i64 x] (by rfl) (by rfl) (cell_one_new _ _ _) (by intro u hu; rw [List.mem_singleton] at hu; subst hu; exact enc_one _) (by unfold maxLen; omega) (by omega) (by have := H4.out.below.size; simp; omega) ?_; intro v' w9 hownN hgrow _ hat; have hA := H4.out.app0 rfl rfl rfl rfl (by rfl) hownN hgrow hat; obtain ⟨A2, cp2, rfl⟩ := own_form hownN; clear p0 p1 q0 q1 r0 r1; obtain ⟨p0, p1, q0, q1, r0, r1⟩ := (HE1.out.keep HE1.out.size hA.below).cells; have y0 := (HL.out.2.below (HE1.out.keep HE1.out.size hA.below).below).at Hy.out; have H5 := Lib.hid hA; clear hownN hgrow hat hA)
                      have HB := Lib.hid (sh_append H5.out HT0.out.inv 1 y)
                      rcases two_app1 HT0.out y with ⟨h1', hT1⟩ | he1
                      · have HT1 := Lib.hid hT1
                        have h1' := Lib.hid h1'
                        clear hT1
                        with_reducible refine Calls.mono HB.out ?_
                        rintro e w7 ⟨rfl, h7⟩
                        rw [h1'.out]
                        clear p0 p1 q0 q1 r0 r1 y0
                        obtain ⟨p0, p1, q0, q1, r0, r1⟩ := (HE1.out.keep HE1.out.size h7.below).cells
                        have y0 := (HL.out.2.below (HE1.out.keep HE1.out.size h7.below).below).at Hy.out
                        have H7 := Lib.hid h7
                        clear h7
                        go_wp2_with (at_builtin; refine wpList_append_own_at _ (by rfl) (.tmp 187) (.tmp 193) 42 (by rfl) w1.heap.size 3 i0 _ 1 8 Try.underlying42 HI.out.1 HI.out.2.1 HI.out.2.2.1 HI.out.2.2.2 (by rfl) (by decide) _ b.length _ (by rfl) (by exact own_lit (W := w7) rfl _ H7.out.ob) _ 1 1 [.int .i64 y] (by rfl) (by rfl) (cell_one_new _ _ _) (by intro u hu; rw [List.mem_singleton] at hu; subst hu; exact enc_one _) (by unfold maxLen; omega) (by omega) (by have := H7.out.below.size; simp; omega) ?_; intro v4 w10 hownN hgrow _ hat; have hA := H7.out.app1 rfl rfl rfl rfl (by rfl) hownN hgrow hat; obtain ⟨A2, cp2, rfl⟩ := own_form hownN; clear p0 p1 q0 q1 r0 r1; obtain ⟨p0, p1, q0, q1, r0, r1⟩ := (HE1.out.keep HE1.out.size hA.below).cells; have H8 := Lib.hid hA; clear hownN hgrow hat hA)
                        go_roundw
                        case rel => exact ⟨k + 1, _, _, _, by go_num, by omega, by rw [List.length_append]; simp; omega, by rw [List.length_append]; simp; omega, HT1, H8⟩
                        case measure => simp [intOf]; omega
                      · rw [he1] at HB
                        with_reducible refine Calls.mono HB.out ?_
                        rintro e w7 ⟨rfl, h7⟩
                        clear p0 p1 q0 q1 r0 r1 y0
                        obtain ⟨p0, p1, q0, q1, r0, r1⟩ := (HE1.out.keep HE1.out.size h7.below).cells
                        have H7 := Lib.hid h7
                        clear h7
                        go_wp2_with fail
                        go_roundw
                        case rel => exact ⟨k + 1, _, _, _, by go_num, by omega, by rw [List.length_append]; simp; omega, by omega, HT0, H7⟩
                        case measure => simp [intOf]; omega
                    · rw [he0] at HA
                      go_wp2_with fail
                      with_reducible refine Calls.mono HA.out ?_
                      rintro e w4 ⟨rfl, h4⟩
                      clear p0 p1 q0 q1 r0 r1 x0 y0
                      obtain ⟨p0, p1, q0, q1, r0, r1⟩ := (HE1.out.keep HE1.out.size h4.below).cells
                      have y0 := (HL.out.2.below (HE1.out.keep HE1.out.size h4.below).below).at Hy.out
                      have H4 := Lib.hid h4
                      clear h4
                      go_wp2_with fail
                      have HB := Lib.hid (sh_append H4.out hT.out.inv 1 y)
                      rcases two_app1 hT.out y with ⟨h1', hT1⟩ | he1
                      · have HT1 := Lib.hid hT1
                        have h1' := Lib.hid h1'
                        clear hT1
                        with_reducible refine Calls.mono HB.out ?_
                        rintro e w7 ⟨rfl, h7⟩
                        rw [h1'.out]
                        clear p0 p1 q0 q1 r0 r1 y0
                        obtain ⟨p0, p1, q0, q1, r0, r1⟩ := (HE1.out.keep HE1.out.size h7.below).cells
                        have y0 := (HL.out.2.below (HE1.out.keep HE1.out.size h7.below).below).at Hy.out
                        have H7 := Lib.hid h7
                        clear h7
                        go_wp2_with (at_builtin; refine wpList_append_own_at _ (by rfl) (.tmp 187) (.tmp 193) 42 (by rfl) w1.heap.size 3 i0 _ 1 8 Try.underlying42 HI.out.1 HI.out.2.1 HI.out.2.2.1 HI.out.2.2.2 (by rfl) (by decide) _ b.length _ (by rfl) (by exact own_lit (W := w7) rfl _ H7.out.ob) _ 1 1 [.int .i64 y] (by rfl) (by rfl) (cell_one_new _ _ _) (by intro u hu; rw [List.mem_singleton] at hu; subst hu; exact enc_one _) (by unfold maxLen; omega) (by omega) (by have := H7.out.below.size; simp; omega) ?_; intro v4 w10 hownN hgrow _ hat; have hA := H7.out.app1 rfl rfl rfl rfl (by rfl) hownN hgrow hat; obtain ⟨A2, cp2, rfl⟩ := own_form hownN; clear p0 p1 q0 q1 r0 r1; obtain ⟨p0, p1, q0, q1, r0, r1⟩ := (HE1.out.keep HE1.out.size hA.below).cells; have H8 := Lib.hid hA; clear hownN hgrow hat hA)
                        go_roundw
                        case rel => exact ⟨k + 1, _, _, _, by go_num, by omega, by omega, by rw [List.length_append]; simp; omega, HT1, H8⟩
                        case measure => simp [intOf]; omega
                      · rw [he1] at HB
                        with_reducible refine Calls.mono HB.out ?_
                        rintro e w7 ⟨rfl, h7⟩
                        clear p0 p1 q0 q1 r0 r1 y0
                        obtain ⟨p0, p1, q0, q1, r0, r1⟩ := (HE1.out.keep HE1.out.size h7.below).cells
                        have H7 := Lib.hid h7
                        clear h7
                        go_wp2_with fail
                        go_roundw
                        case rel => exact ⟨k + 1, _, _, _, by go_num, by omega, by omega, by omega, hT, H7⟩
                        case measure => simp [intOf]; omega
                  · have hl0k' : (k : Int) < (l0.length : Int) := by omega
                    obtain ⟨x, hx⟩ : ∃ x, l0[k]? = some x := ⟨_, List.getElem?_eq_getElem hl0k⟩
                    have Hx := Lib.hid hx
                    clear hx
                    obtain ⟨ad0, cp0, e', -⟩ := HL.out.1.cell k x Hx.out
                    injection e' with e1 _ e3
                    subst e1
                    subst e3
                    have hl1k' : ¬ (k : Int) < (l1.length : Int) := by omega
                    have x0 := (HL.out.1.below (HE1.out.keep HE1.out.size hS.out.below).below).at Hx.out
                    have HA := Lib.hid (sh_append hS.out hT.out.inv 0 x)
                    rcases two_app0 hT.out x with ⟨h0', hT0⟩ | he0
                    · have HT0 := Lib.hid hT0
                      have h0' := Lib.hid h0'
                      clear hT0
                      go_wp2_with fail
                      with_reducible refine Calls.mono HA.out ?_
                      rintro e w4 ⟨rfl, h4⟩
                      rw [h0'.out]
                      clear p0 p1 q0 q1 r0 r1 x0
                      obtain ⟨p0, p1, q0, q1, r0, r1⟩ := (HE1.out.keep HE1.out.size h4.below).cells
                      have x0 := (HL.out.1.below (HE1.out.keep HE1.out.size h4.below).below).at Hx.out
                      have H4 := Lib.hid h4
                      clear h4
                      go_wp2_with (at_builtin; refine wpList_append_own_at _ (by rfl) (.tmp 164) (.tmp 170) 42 (by rfl) w1.heap.size 3 i0 _ 1 8 Try.underlying42 HI.out.1 HI.out.2.1 HI.out.2.2.1 HI.out.2.2.2 (by rfl) (by decide) _ a.length _ (by rfl) (by exact own_lit (W := w4) rfl _ H4.out.oa) _ 1 1 [.int .i64 x] (by rfl) (by rfl) (cell_one_new _ _ _) (by intro u hu; rw [List.mem_singleton] at hu; subst hu; exact enc_one _) (by unfold maxLen; omega) (by omega) (by have := H4.out.below.size; simp; omega) ?_; intro v' w9 hownN hgrow _ hat; have hA := H4.out.app0 rfl rfl rfl rfl (by rfl) hownN hgrow hat; obtain ⟨A2, cp2, rfl⟩ := own_form hownN; clear p0 p1 q0 q1 r0 r1; obtain ⟨p0, p1, q0, q1, r0, r1⟩ := (HE1.out.keep HE1.out.size hA.below).cells; have H5 := Lib.hid hA; clear hownN hgrow hat hA)
                      go_roundw
                      case rel => exact ⟨k + 1, _, _, _, by go_num, by omega, by rw [List.length_append]; simp; omega, by omega, HT0, H5⟩
                      case measure => simp [intOf]; omega
                    · rw [he0] at HA
                      go_wp2_with fail
                      with_reducible refine Calls.mono HA.out ?_
                      rintro e w4 ⟨rfl, h4⟩
                      clear p0 p1 q0 q1 r0 r1 x0
                      obtain ⟨p0, p1, q0, q1, r0, r1⟩ := (HE1.out.keep HE1.out.size h4.below).cells
                      have H4 := Lib.hid h4
                      clear h4
                      go_wp2_with fail
                      go_roundw
                      case rel => exact ⟨k + 1, _, _, _, by go_num, by omega, by omega, by omega, hT, H4⟩
                      case measure => simp [intOf]; omega
                · by_cases hl1k : k < l1.length
                  · have hl0k' : ¬ (k : Int) < (l0.length : Int) := by omega
                    have hl1k' : (k : Int) < (l1.length : Int) := by omega
                    obtain ⟨y, hy⟩ : ∃ y, l1[k]? = some y := ⟨_, List.getElem?_eq_getElem hl1k⟩
                    have Hy := Lib.hid hy
                    clear hy
                    obtain ⟨ad1, cp1, e', -⟩ := HL.out.2.cell k y Hy.out
                    injection e' with e1 _ e3
                    subst e1
                    subst e3
                    have y0 := (HL.out.2.below (HE1.out.keep HE1.out.size hS.out.below).below).at Hy.out
                    go_wp2_with fail
                    have HB := Lib.hid (sh_append hS.out hT.out.inv 1 y)
                    rcases two_app1 hT.out y with ⟨h1', hT1⟩ | he1
                    · have HT1 := Lib.hid hT1
                      have h1' := Lib.hid h1'
                      clear hT1
                      with_reducible refine Calls.mono HB.out ?_
                      rintro e w7 ⟨rfl, h7⟩
                      rw [h1'.out]
                      clear p0 p1 q0 q1 r0 r1 y0
                      obtain ⟨p0, p1, q0, q1, r0, r1⟩ := (HE1.out.keep HE1.out.size h7.below).cells
                      have y0 := (HL.out.2.below (HE1.out.keep HE1.out.size h7.below).below).at Hy.out
                      have H7 := Lib.hid h7
                      clear h7
                      go_wp2_with (at_builtin; refine wpList_append_own_at _ (by rfl) (.tmp 187) (.tmp 193) 42 (by rfl) w1.heap.size 3 i0 _ 1 8 Try.underlying42 HI.out.1 HI.out.2.1 HI.out.2.2.1 HI.out.2.2.2 (by rfl) (by decide) _ b.length _ (by rfl) (by exact own_lit (W := w7) rfl _ H7.out.ob) _ 1 1 [.int .i64 y] (by rfl) (by rfl) (cell_one_new _ _ _) (by intro u hu; rw [List.mem_singleton] at hu; subst hu; exact enc_one _) (by unfold maxLen; omega) (by omega) (by have := H7.out.below.size; simp; omega) ?_; intro v4 w10 hownN hgrow _ hat; have hA := H7.out.app1 rfl rfl rfl rfl (by rfl) hownN hgrow hat; obtain ⟨A2, cp2, rfl⟩ := own_form hownN; clear p0 p1 q0 q1 r0 r1; obtain ⟨p0, p1, q0, q1, r0, r1⟩ := (HE1.out.keep HE1.out.size hA.below).cells; have H8 := Lib.hid hA; clear hownN hgrow hat hA)
                      go_roundw
                      case rel => exact ⟨k + 1, _, _, _, by go_num, by omega, by omega, by rw [List.length_append]; simp; omega, HT1, H8⟩
                      case measure => simp [intOf]; omega
                    · rw [he1] at HB
                      with_reducible refine Calls.mono HB.out ?_
                      rintro e w7 ⟨rfl, h7⟩
                      clear p0 p1 q0 q1 r0 r1 y0
                      obtain ⟨p0, p1, q0, q1, r0, r1⟩ := (HE1.out.keep HE1.out.size h7.below).cells
                      have H7 := Lib.hid h7
                      clear h7
                      go_wp2_with fail
                      go_roundw
                      case rel => exact ⟨k + 1, _, _, _, by go_num, by omega, by omega, by omega, hT, H7⟩
                      case measure => simp [intOf]; omega
                  · have hl0k' : ¬ (k : Int) < (l0.length : Int) := by omega
                    have hl1k' : ¬ (k : Int) < (l1.length : Int) := by omega
                    go_wp2_with fail
                    go_roundw
                    case rel => exact ⟨k + 1, _, _, _, by go_num, by omega, by omega, by omega, hT, hS⟩
                    case measure => simp [intOf]; omega
              · have hlt' : ¬ (k : Int) < 20 := by omega
                clear hlt
                have HR0 := Lib.hid (sh_row hS.out hT.out.inv 0 (by rw [hT.out.a0]; omega))
                rw [hT.out.a0] at HR0
                go_wp2_with fail
                with_reducible refine Calls.mono HR0.out ?_
                rintro e w4 ⟨v4, rfl, hv4, hb4, h4⟩
                have HR1 := Lib.hid (sh_row h4 hT.out.inv 1 (by rw [hT.out.a1]; omega))
                rw [hT.out.a1] at HR1
                have H4 := Lib.hid (And.intro hv4 h4)
                clear hb4 h4 hv4
                go_wp2_with fail
                with_reducible refine Calls.mono HR1.out ?_
                rintro e w7 ⟨v7, rfl, hv7, hb7, h7⟩
                have HI0 := Lib.hid (ints_same (H4.out.1.below hb7) (RdI.of_own h7.oa) (by omega))
                have H7 := Lib.hid (And.intro hv7 h7)
                clear hb7 h7 hv7
                go_wp2_with fail
                with_reducible refine Calls.mono HI0.out ?_
                rintro e w8 ⟨rfl, m1, rfl⟩
                have HI1 := Lib.hid (ints_same (H7.out.1.drewN m1) (RdI.of_own (H7.out.2.drewN m1).ob) (by omega))
                go_wp2_with fail
                with_reducible refine Calls.mono HI1.out ?_
                rintro e w9 ⟨rfl, m2, rfl⟩
                go_wp2_with fail
                with_reducible refine Calls.mono (KvB.awake_run _) ?_
                rintro e w10 ⟨rfl, hb⟩
                have HB := Lib.hid hb
                clear hb
                go_wp2_with fail
                go_ret
                have H9 := H7.out.2.drewN (m1 + m2)
                exact ⟨rfl, HE1.out.below.trans ((H9.below.trans (HB.out.mono H9.below.size)).mono (by have := HE1.out.size; omega))⟩
      · have hdn' : (n : Int) < (d : Int) := by omega
        rw [two_share_no hF.out (by omega : n < d)] at HS
        go_wp2_with fail
        with_reducible refine Calls.mono HS.out ?_
        rintro e w5 ⟨rfl, h5⟩
        obtain ⟨p0, p1, q0, q1, r0, r1⟩ := (HE1.out.keep HE1.out.size h5.below).cells
        have HA2 := Lib.hid (sh_free h5 hF.out.inv)
        clear h5
        go_wp2_with fail
        with_reducible refine Calls.mono HA2.out ?_
        rintro e w6 ⟨rfl, h6⟩
        have H6 := Lib.hid h6
        clear h6
        go_wp2_with fail
        with_reducible refine Calls.mono (KvB.awake_run _) ?_
        rintro e w7 ⟨rfl, hb⟩
        have HB := Lib.hid hb
        clear hb
        go_wp2_with fail
        go_ret
        exact ⟨rfl, HE1.out.below.trans ((H6.out.below.trans (HB.out.mono H6.out.below.size)).mono (by have := HE1.out.size; omega))⟩
end Go.Proofs.Ytackjeckafoojaa.KvI
