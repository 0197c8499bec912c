/- KvApart, walked. -/
import Derived.Test.YtackjeckafoojaaKvAp2
namespace Go.Proofs.Ytackjeckafoojaa.KvI
open Go.RowKit Kv
attribute [local go_sem ↓] Kit.execOp_call_slot
attribute [local go_sem] Kit.callSlot_func

set_option maxRecDepth 100000 in
set_option maxHeartbeats 4000000 in
theorem apart_good (W : World) (p z : Nat) (hp : 1 ≤ p ∧ p ≤ 12) (hz : 1 ≤ z ∧ z ≤ 8) (v : Value) (l : List (Int × Int × Int)) (oa oi on : Int) (h0 : RdO W v l) (hl : l.length ≤ 50) :
    Calls Try.prog 5 #[.agg #[.int .i64 (p : Int), .int .i64 (z : Int)], v, .agg #[.int .i64 oa, .int .i64 oi, .int .i64 on]] W fun e w' => e = .returned (.bool true) ∧ Below W.heap.size W w' := by
  obtain ⟨A0, c0, rfl⟩ := h0.form
  have hok : okTwo (p : Int) (z : Int) = true := by simp [okTwo]; omega
  have HR := Lib.hid (fun w => right_run w (p : Int) (z : Int))
  have HN := Lib.hid (fun w => at_new w p z (by omega) (by omega))
  have HL := Lib.hid h0
  have HP := Lib.hid (And.intro hp hz)
  have g5 : ¬ (50 : Int) < (l.length : Int) := by omega
  have g5' : (l.length : Int) ≤ 50 := by omega
  have HE : ∀ w1, w1 = ((W.alloc (.cells #[.int .i64 (p : Int), .int .i64 (z : Int)] 22)).alloc (.cells #[.int .i64 oa, .int .i64 oi, .int .i64 on] 36)).alloc (.cells #[.int .i64 (p : Int), .int .i64 (z : Int)] 22) → ApEnv W w1 p z oa oi on := by
    rintro w1 rfl
    have e0 : (W.alloc (.cells #[.int .i64 (p : Int), .int .i64 (z : Int)] 22)).heap.size = W.heap.size + 1 := by simp
    refine ⟨(((Below.refl W.heap.size W).alloc (Nat.le_refl _) _).alloc (by simp) _).alloc (by simp; omega) _, by simp, ?_, ?_⟩
    · rw [Below.heap_alloc _ _ _ (by simp; omega), Below.heap_alloc _ _ _ (by simp)]
      exact heap_alloc_new _ _
    · rw [Below.heap_alloc _ _ _ (by simp), ← e0]
      exact heap_alloc_new _ _
  have HE := Lib.hid HE
  obtain ⟨i0, hi, hi0, hi1, hi2⟩ := info_parts infoE
  have HI := Lib.hid (And.intro hi (And.intro hi0 (And.intro hi1 hi2)))
  obtain ⟨j0, hj, hj0, hj1, hj2⟩ := info_parts infoS
  have HJ := Lib.hid (And.intro hj (And.intro hj0 (And.intro hj1 hj2)))
  clear hi hi0 hi1 hi2 hj hj0 hj1 hj2
  clear h0 hp hz
  go_enter Try.func5, Try.ntmps5
  go_wp2_with fail
  with_reducible refine Calls.mono (HR.out _) ?_
  rintro e w1 ⟨rfl, hw⟩
  rw [hok]
  have hE := HE.out w1 hw
  clear hw
  obtain ⟨p0, p1, q1, q2⟩ := hE.cells
  have HE1 := Lib.hid hE
  clear hE
  go_wp2_with fail
  with_reducible refine Calls.mono (HN.out w1) ?_
  rintro e w2 ⟨rfl, h2⟩
  clear p0 p1 q1 q2
  have H2 := Lib.hid h2
  have HS0 := Lib.hid (small_new p z ⟨HP.out.1.1, by have := HP.out.1.2; omega⟩ ⟨HP.out.2.1, by have := HP.out.2.2; omega⟩)
  clear h2
  go_wp2_with fail
  go_loopw [9] (fun vi wr => ∃ (k : Nat) (s : PSt Int), vi = .int .i64 k ∧ k ≤ l.length ∧ Hid (Small s p z k) ∧ Hid (At w1.heap.size (w1.heap.size + 2) w1 (fun _ => False) wr s))
    (fun vi _ => l.length - (intOf vi).toNat)
  case atStart => exact ⟨0, _, rfl, Nat.zero_le _, HS0, H2⟩
  case round =>
    obtain ⟨k, s, rfl, hk, hS, hA⟩ := hrel
    obtain ⟨p0, p1, q1, q2⟩ := (HE1.out.keep HE1.out.size hA.out.below).cells
    have k1 : (k : Int) ≤ 50 := by omega
    by_cases hlt : k < l.length
    · have hlt' : (k : Int) < (l.length : Int) := by omega
      obtain ⟨⟨a, b, c⟩, hx⟩ : ∃ x, l[k]? = some x := ⟨_, List.getElem?_eq_getElem hlt⟩
      obtain ⟨ad, cp, e', -⟩ := HL.out.cell k a b c hx
      injection e' with e1 _ e3
      subst e1
      subst e3
      obtain ⟨x0, x1, x2⟩ := (HL.out.below (HE1.out.keep HE1.out.size hA.out.below).below).at hx
      have HC := Lib.hid (fun W' hb => do_call hA.out hS.out.inv (p : Int) (z : Int) a b c W' hb)
      have HS' := Lib.hid (small_do hS.out a b c)
      have HX := Lib.hid hx
      clear hx q1 q2
      go_wp2_with fail
      go_region_held3 (fun w' => w'.cell? ⟨W.heap.size, 0, none⟩ = some (.int .i64 p) ∧ w'.cell? ⟨W.heap.size, 1, none⟩ = some (.int .i64 z) ∧ w'.cell? (ad.add (k * 3)) = some (.int .i64 a) ∧ w'.cell? ⟨(ad.add (k * 3)).block, (ad.add (k * 3)).off + 1, none⟩ = some (.int .i64 b) ∧ w'.cell? ⟨(ad.add (k * 3)).block, (ad.add (k * 3)).off + 2, none⟩ = some (.int .i64 c)) (first | exact ⟨p0, p1, x0, x1, x2⟩ | assumption | go_keep)
        (first | (go_at_call 11; refine Calls.mono (HC.out _ (below_undrew (Below.refl _ _))) ?_; rintro e w3 ⟨⟨b', rfl⟩, h3⟩; have H3 := Lib.hid h3; obtain ⟨p0, p1, -, -⟩ := (HE1.out.keep HE1.out.size h3.below).cells; obtain ⟨x0, x1, x2⟩ := (HL.out.below (HE1.out.keep HE1.out.size h3.below).below).at HX.out; clear h3))
      go_wp2_with fail
      go_roundw
      case rel => exact ⟨k + 1, _, by go_num, by omega, HS', H3⟩
      case measure => simp [intOf]; omega
    · have hlt' : ¬ (k : Int) < (l.length : Int) := by omega
      have hk50 : k ≤ 50 := by omega
      have HA0 : Hid (At w1.heap.size (w1.heap.size + 2) w1 (WasF (.slice none 0 0) [] 0) wr s) := hA.out.weaken (by
        rintro k (hk | ⟨j, v, -, hv, -⟩)
        · simp [Value.ownBlock] at hk
        · simp at hv)
      clear hlt hk k1
      go_wp2_with fail
      go_loopw [10, 11] (fun vw vi wr => ∃ (k : Nat) (vs : List Value), vi = .int .i64 k ∧ k ≤ 60 ∧ vs.length = k ∧ Hid (Was w1.heap.size wr vw vs (rowsTo s k) 0) ∧ Hid (At w1.heap.size (w1.heap.size + 2) w1 (WasF vw vs 0) wr s))
        (fun _ vi _ => 60 - (intOf vi).toNat)
      case atStart => exact ⟨0, [], rfl, Nat.zero_le _, rfl, Lib.hid (Was.nil _ _), HA0⟩
      case round =>
        clear p0 p1 q1 q2 hA HA0
        obtain ⟨k, vs, rfl, hk, hvl, hV, hA⟩ := hrel
        obtain ⟨p0, p1, q1, q2⟩ := (HE1.out.keep HE1.out.size hA.out.below).cells
        obtain ⟨Aw, cw, rfl⟩ := own_form hV.out.ow
        rw [hvl] at hV hA ⊢
        have k1 : (k : Int) ≤ 60 := by omega
        by_cases hlt : k < 60
        · have hlt' : (k : Int) < 60 := by omega
          have HRW := Lib.hid (apart_row hA.out.ap hS.out.inv (k : Int) (by have := all_le hS.out HP.out.1.2 HP.out.2.2 k; omega))
          go_wp2_with fail
          with_reducible refine Calls.mono HRW.out ?_
          rintro e w4 ⟨v4, rfl, hv4⟩
          obtain ⟨A4, c4, rfl⟩ := own_form hv4.own
          have hV4 := hV.out.below hv4.below
          obtain ⟨m4, hm4⟩ : ∃ m, m = (s.all 0 (k : Int)).length := ⟨_, rfl⟩
          have HV4 := Lib.hid (And.intro hv4 (And.intro hV4 hm4))
          have HOW : Hid (w4.ownsRow w1.heap.size 42 1 (.slice Aw k cw) k vs) := by have := hV4.ow; rw [hvl] at this; exact this
          clear hv4 hV4 hm4
          go_wp2_with (at_builtin; refine wpList_append_own_at _ (by rfl) (.tmp 76) (.tmp 78) 50 (by rfl) w1.heap.size 42 j0 _ 1 24 Try.underlying50 HJ.out.1 HJ.out.2.1 HJ.out.2.2.1 HJ.out.2.2.2 (by rfl) (by decide) _ k _ (by rfl) (by exact own_lit (W := w4) rfl _ HOW.out) _ 1 1 [.slice A4 (s.all 0 (k : Int)).length c4] (by rfl) (by rfl) (cell_one_new _ _ _) (by intro u hu; rw [List.mem_singleton] at hu; subst hu; rfl) (by unfold maxLen; omega) (by omega) (by have := hA.out.size; have := HV4.out.1.below.size; simp; omega) ?_; intro v' w9 hownN hgrow _ hat; have hW9 := hV.out.push hA.out.size HV4.out.1.below HV4.out.1.own rfl rfl rfl rfl hvl hownN hgrow hat; have hA9 := hA.out.push (fun j hj => (hV.out.ow.lt j hj).1) HV4.out.1.below HV4.out.1.own rfl rfl rfl rfl hgrow hat (fun j hj => (hW9.lt j hj).2); obtain ⟨A', cp', rfl⟩ := own_form hownN; have HW9 := Lib.hid hW9; have HA9 := Lib.hid hA9; clear hownN hgrow hat hW9 hA9)
          rw [rowsTo_succ] at HW9
          go_roundw
          case rel => exact ⟨k + 1, _, by go_num, by omega, by simp [hvl], HW9, HA9⟩
          case measure => simp [intOf]; omega
        · have hlt' : ¬ (k : Int) < 60 := by omega
          obtain rfl : k = 60 := by omega
          obtain ⟨f, hf⟩ : ∃ f, f = (s.append oi on).2 := ⟨_, rfl⟩
          obtain ⟨s', hs'⟩ : ∃ s', s' = (s.append oi on).1 := ⟨_, rfl⟩
          have HC := at_append hA.out hS.out.inv oi on
          have hrows := fun j => app_rows hS.out.inv oi on j
          obtain ⟨l1, l2, l3⟩ := append_len s oi on
          have hS' : Small s' p z 50 := ⟨by rw [hs']; exact inv_append hS.out.inv _ _, by rw [hs', l1]; exact hS.out.np, by rw [hs', l2]; exact hS.out.sz, by rw [hs', l3]; exact Nat.le_trans hS.out.rows hk50⟩
          rw [← hf, ← hs'] at HC
          rw [← hf, ← hs'] at hrows
          have HC := Lib.hid HC
          have HRows := Lib.hid hrows
          have HS' := Lib.hid hS'
          clear l1 l2 l3 hS' hrows hf hs' hlt hk k1
          go_wp2_with fail
          with_reducible refine Calls.mono HC.out ?_
          rintro e w3 ⟨rfl, h3, hk3⟩
          have HV3 : Hid (Was w1.heap.size w3 (.slice Aw 60 cw) vs (rowsTo s 60) 0) := hV.out.keep hk3
          have H3 := Lib.hid h3
          obtain ⟨p0, p1, q1, q2⟩ := (HE1.out.keep HE1.out.size h3.below).cells
          clear h3 hk3
          go_wp2_with fail
          go_loopw [15, 16] (fun vh vi wr => ∃ (k : Nat), vi = .int .i64 k ∧ k ≤ 60 ∧ vh = .int .i64 (heldTo s' k : Int) ∧ Hid (Was w1.heap.size wr (.slice Aw 60 cw) vs (rowsTo s 60) k) ∧ Hid (At w1.heap.size (w1.heap.size + 2) w1 (WasF (.slice Aw 60 cw) vs k) wr s'))
            (fun _ vi _ => 60 - (intOf vi).toNat)
          case atStart => exact ⟨0, rfl, Nat.zero_le _, rfl, HV3, H3⟩
          case round =>
            clear p0 p1 q1 q2 hA H3 HV3 hV
            obtain ⟨k, rfl, hk, rfl, hV, hA⟩ := hrel
            obtain ⟨p0, p1, q1, q2⟩ := (HE1.out.keep HE1.out.size hA.out.below).cells
            have k1 : (k : Int) ≤ 60 := by omega
            have k2 : (heldTo s' k : Int) ≤ 15360 := by have := heldTo_le HS'.out.inv k; omega
            by_cases hlt : k < 60
            · have hlt' : (k : Int) < 60 := by omega
              have k3 : ((s'.pagesOf k).length : Int) ≤ 256 := by have := pages_le HS'.out.inv k; omega
              have HRW := Lib.hid (apart_row hA.out.ap HS'.out.inv (k : Int) (by have := all_le HS'.out HP.out.1.2 HP.out.2.2 k; omega))
              have hvk : k < vs.length := by omega
              obtain ⟨vk, hvk⟩ : ∃ x, vs[k]? = some x := ⟨_, List.getElem?_eq_getElem hvk⟩
              have hown := hV.out.each k vk _ (Nat.le_refl _) hvk (rowsTo_get s hlt)
              obtain ⟨m, hm⟩ : ∃ m, m = (s.all 0 (k : Int)).length := ⟨_, rfl⟩
              rw [← hm] at hown
              obtain ⟨Ak, ck, rfl⟩ := own_form hown
              have HK := Lib.hid (And.intro hvk (And.intro hown hm))
              have hm96 : (m : Int) ≤ 96 := by have := all_le hS.out HP.out.1.2 HP.out.2.2 k; omega
              clear hvk hown hm
              go_wp2_with fail
              with_reducible refine Calls.mono HRW.out ?_
              rintro e w4 ⟨v4, rfl, hv4⟩
              obtain ⟨A4, c4, rfl⟩ := own_form hv4.own
              have HPG := Lib.hid (apart_pages (hA.out.ap.below hv4.below) HS'.out.inv k)
              have HV4 := Lib.hid hv4
              clear hv4
              go_wp2_with fail
              with_reducible refine Calls.mono HPG.out ?_
              rintro e w5 ⟨A5, c5, rfl, hb5⟩
              have hb45 := below_trans HV4.out.below hb5
              obtain ⟨p0, p1, q1, q2⟩ := (HE1.out.keep HE1.out.size (hA.out.later hb45).below).cells
              have hW5 := hV.out.below hb45
              obtain ⟨gw, cw', ew, -, hcw⟩ := own_read hW5.ow (by omega)
              have r0 := hcw k _ HK.out.1
              have HB5 := Lib.hid (And.intro hb45 (And.intro hb5 hW5))
              clear hb5 hb45 hW5 hcw
              injection ew with ew1 ew2 ew3
              subst ew1
              subst ew3
              clear ew2
              have hroww := HRows.out k
              by_cases hyes : (k : Int) = oi ∧ f = 0
              · rw [if_pos hyes] at hroww
                obtain ⟨hoi, rfl⟩ := hyes
                have HRows1 := Lib.hid hroww
                clear hroww
                subst hoi
                have HOW : Hid (w5.ownsRow w1.heap.size 3 1 (.slice Ak m ck) m ((s.all 0 (k : Int)).map encI)) := own_same HK.out.2.1 fun b hb => HB5.out.1.block b (own_lt' HK.out.2.1 hb)
                go_wp2_with (at_builtin; refine wpList_append_own_at _ (by rfl) (.tmp 116) (.tmp 119) 42 (by rfl) w1.heap.size 3 i0 _ 1 8 Try.underlying42 HI.out.1 HI.out.2.1 HI.out.2.2.1 HI.out.2.2.2 (by rfl) (by decide) _ m _ (by rfl) (by exact own_lit (W := w5) rfl _ HOW.out) _ 1 1 [.int .i64 on] (by rfl) (by rfl) (cell_one_new _ _ _) (by intro u hu; rw [List.mem_singleton] at hu; subst hu; rfl) (by unfold maxLen; omega) (by omega) (by have := hA.out.size; have := HB5.out.1.size; simp; omega) ?_; intro v' w9 hownN hgrow _ hat; obtain ⟨A', cp', rfl⟩ := own_form hownN; have HO := Lib.hid (And.intro hownN hgrow); clear hownN hgrow hat)
                have hb5x := below_lit (W := w5) (w0 := w5) rfl rfl rfl rfl (.cells #[.int .i64 on] 3)
                have hB9 : Below w4.heap.size w4 w5 := HB5.out.2.1
                have hx9 : RdI w9 (.slice A4 (s'.all 0 (k : Int)).length c4) (s'.all 0 (k : Int)) := by
                  refine RdI.of_own (own_same HV4.out.own fun b hb => ?_)
                  have hlt := HV4.out.own.lt b hb
                  have h45 := HB5.out.2.1.block b hlt.2
                  refine ((HO.out.2.block b ?_ ?_).trans (hb5x.block b (Nat.lt_of_lt_of_le hlt.2 HB5.out.2.1.size))).trans h45
                  · exact Nat.lt_of_lt_of_le hlt.2 (Nat.le_trans HB5.out.2.1.size hb5x.size)
                  · intro e
                    have := own_lt' HK.out.2.1 e.symm
                    omega
                have hy9 : RdI w9 (.slice A' (m + 1) cp') (s'.all 0 (k : Int)) := by
                  rw [HRows1.out]
                  have := HO.out.1
                  refine RdI.of_own (base := w1.heap.size) (e := 3) ?_
                  rw [List.length_append, List.map_append, ← HK.out.2.2]
                  exact this
                have hA9 := (hA.out.later HB5.out.1).grew hb5x HO.out.2 (fun g hg => ⟨.inr ⟨k, _, Nat.le_refl _, HK.out.1, hg⟩, (HK.out.2.1.lt g hg).1⟩)
                have hW9 := HB5.out.2.2.grew HK.out.1 hb5x HO.out.2
                have HC9 := Lib.hid (ints_same hx9 hy9 (by have := all_le HS'.out HP.out.1.2 HP.out.2.2 k; omega))
                have HF9 := Lib.hid (And.intro hA9 hW9)
                clear hx9 hy9 hA9 hW9 hb5x hB9
                with_reducible refine Calls.mono HC9.out ?_
                rintro e w10 ⟨rfl, m10, rfl⟩
                go_wp2_with fail
                go_roundw
                case rel => exact ⟨k + 1, by go_num, by omega, by rw [heldTo_succ]; go_num, Lib.hid (HF9.out.2.keep fun _ _ => rfl), Lib.hid ((HF9.out.1.undrew m10).weaken fun _ h => h.next)⟩
                case measure => simp [intOf]; omega
              · rw [if_neg hyes] at hroww
                by_cases hoi : (k : Int) = oi
                · have hf0 : ¬ f = 0 := fun h => hyes ⟨hoi, h⟩
                  subst hoi
                  have hx9 : RdI w5 (.slice A4 (s'.all 0 (k : Int)).length c4) (s'.all 0 (k : Int)) := (RdI.of_own HV4.out.own).below HB5.out.2.1
                  have hy9 : RdI w5 (.slice Ak m ck) (s'.all 0 (k : Int)) := by
                    rw [hroww]
                    refine RdI.of_own (base := w1.heap.size) (e := 3) ?_
                    rw [← HK.out.2.2]
                    exact own_same HK.out.2.1 fun b hb => HB5.out.1.block b (own_lt' HK.out.2.1 hb)
                  have HC9 := Lib.hid (ints_same hx9 hy9 (by have := all_le HS'.out HP.out.1.2 HP.out.2.2 k; omega))
                  clear hx9 hy9 hroww hyes
                  go_wp2_with fail
                  with_reducible refine Calls.mono HC9.out ?_
                  rintro e w10 ⟨rfl, m10, rfl⟩
                  go_wp2_with fail
                  go_roundw
                  case rel => exact ⟨k + 1, by go_num, by omega, by rw [heldTo_succ]; go_num, Lib.hid (HB5.out.2.2.next.keep fun _ _ => rfl), Lib.hid (((hA.out.later HB5.out.1).undrew m10).weaken fun _ h => h.next)⟩
                  case measure => simp [intOf]; omega
                · have hx9 : RdI w5 (.slice A4 (s'.all 0 (k : Int)).length c4) (s'.all 0 (k : Int)) := (RdI.of_own HV4.out.own).below HB5.out.2.1
                  have hy9 : RdI w5 (.slice Ak m ck) (s'.all 0 (k : Int)) := by
                    rw [hroww]
                    refine RdI.of_own (base := w1.heap.size) (e := 3) ?_
                    rw [← HK.out.2.2]
                    exact own_same HK.out.2.1 fun b hb => HB5.out.1.block b (own_lt' HK.out.2.1 hb)
                  have HC9 := Lib.hid (ints_same hx9 hy9 (by have := all_le HS'.out HP.out.1.2 HP.out.2.2 k; omega))
                  clear hx9 hy9 hroww hyes
                  go_wp2_with fail
                  with_reducible refine Calls.mono HC9.out ?_
                  rintro e w10 ⟨rfl, m10, rfl⟩
                  go_wp2_with fail
                  go_roundw
                  case rel => exact ⟨k + 1, by go_num, by omega, by rw [heldTo_succ]; go_num, Lib.hid (HB5.out.2.2.next.keep fun _ _ => rfl), Lib.hid (((hA.out.later HB5.out.1).undrew m10).weaken fun _ h => h.next)⟩
                  case measure => simp [intOf]; omega
            · have hlt' : ¬ (k : Int) < 60 := by omega
              obtain rfl : k = 60 := by omega
              have hrl : s'.rows.length ≤ 60 := by have := HS'.out.rows; omega
              have hsum : sumTo s' p = heldTo s' 60 := by rw [← HS'.out.np]; exact sum_held HS'.out.inv hrl
              have hfr : freeTo s' p = s'.free := by rw [← HS'.out.np]; exact free_to s'
              have p12 : (p : Int) ≤ 12 := by have := HP.out.1.2; omega
              obtain ⟨hd, hhd⟩ : ∃ hd, hd = heldTo s' 60 := ⟨_, rfl⟩
              rw [← hhd] at hsum k2 ⊢
              have HH := Lib.hid (And.intro hsum hfr)
              have HA4 : Hid (At w1.heap.size (w1.heap.size + 2) w1 (fun _ => False) wr s') := hA.out.weaken fun _ h => h.elim
              clear hlt hk k1 hhd hsum hfr hrl hA hV
              go_wp2_with fail
              go_loopw [20, 21, 22] (fun vs vf vi wr => ∃ (k : Nat), vi = .int .i64 k ∧ k ≤ p ∧ vs = .int .i64 (sumTo s' k : Int) ∧ vf = .int .i64 (freeTo s' k : Int) ∧ Hid (At w1.heap.size (w1.heap.size + 2) w1 (fun _ => False) wr s'))
                (fun _ _ vi _ => p - (intOf vi).toNat)
              case atStart => exact ⟨0, rfl, Nat.zero_le _, rfl, rfl, HA4⟩
              case round =>
                clear p0 p1 q1 q2 HA4
                obtain ⟨k, rfl, hk, rfl, rfl, hA⟩ := hrel
                obtain ⟨p0, p1, q1, q2⟩ := (HE1.out.keep HE1.out.size hA.out.below).cells
                have k1 : (k : Int) ≤ 12 := by omega
                have k3 : (sumTo s' k : Int) ≤ 12288 := by have := sumTo_le HS'.out.inv k; omega
                have k4 : (freeTo s' k : Int) ≤ 12 := by have := freeTo_le s' k; omega
                by_cases hlt : k < p
                · have hlt' : (k : Int) < (p : Int) := by omega
                  have HC := Lib.hid (apart_count hA.out.ap k)
                  have hck := HS'.out.inv.cnt k (by rw [HS'.out.np]; exact hlt)
                  obtain ⟨c, hc⟩ : ∃ c, c = s'.rows.countP (holdsR k) := ⟨_, rfl⟩
                  have hc1 : (c : Int) ≤ 1024 := by rw [hc]; have := List.countP_le_length (p := holdsR k) (l := s'.rows); have := HS'.out.inv.many; omega
                  rw [← hc] at hck
                  rw [hck] at HC
                  have HS := Lib.hid (sumTo_succ s' k)
                  rw [← hc] at HS
                  have HFr := Lib.hid (freeTo_succ s' k)
                  rw [hck] at HFr
                  clear hck hc
                  go_wp2_with fail
                  with_reducible refine Calls.mono HC.out ?_
                  rintro e w5 ⟨rfl, rfl⟩
                  go_wp2_with fail
                  with_reducible refine Calls.mono HC.out ?_
                  rintro e w5 ⟨rfl, rfl⟩
                  by_cases hc0 : c = 0
                  · subst hc0
                    go_wp2_with fail
                    go_roundw
                    case rel => exact ⟨k + 1, by go_num, by omega, by rw [HS.out]; go_num, by rw [HFr.out]; go_num, hA⟩
                    case measure => simp [intOf]; omega
                  · have hc0' : ¬ (c : Int) = 0 := by omega
                    rw [if_neg hc0'] at HFr
                    go_wp2_with fail
                    go_roundw
                    case rel => exact ⟨k + 1, by go_num, by omega, by rw [HS.out]; go_num, by rw [HFr.out]; rfl, hA⟩
                    case measure => simp [intOf]; omega
                · have hlt' : ¬ (k : Int) < (p : Int) := by omega
                  obtain rfl : k = p := by omega
                  rw [HH.out.1, HH.out.2]
                  have HF := Lib.hid (apart_free hA.out.ap HS'.out.inv)
                  go_wp2_with fail
                  with_reducible refine Calls.mono HF.out ?_
                  rintro e w5 ⟨rfl, hb5⟩
                  have HB5 := Lib.hid hb5
                  clear hb5
                  go_wp2_with fail
                  with_reducible refine Calls.mono (KvB.awake_run _) ?_
                  rintro e w10 ⟨rfl, hb⟩
                  have HB := Lib.hid hb
                  clear hb
                  go_wp2_with fail
                  go_ret
                  exact ⟨rfl, HE1.out.below.trans (((hA.out.below.trans (HB5.out.mono hA.out.size)).trans (HB.out.mono (Nat.le_trans hA.out.size HB5.out.size))).mono (by have := HE1.out.size; omega))⟩
end Go.Proofs.Ytackjeckafoojaa.KvI
