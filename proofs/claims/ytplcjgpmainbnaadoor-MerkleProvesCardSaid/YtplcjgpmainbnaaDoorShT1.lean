/- sha.turn. -/
import Derived.Test.YtplcjgpmainbnaaDoorShT0
set_option linter.unusedVariables false
set_option linter.unusedSimpArgs false
namespace Go.Proofs.YtplcjgpmainbnaaDoor.ShaW
open Go.RowKit Sha Bits
attribute [local go_sem ↓] Kit.execOp_call_slot
attribute [local go_sem] Kit.callSlot_func
def TurnPost (W : World) (s : St) (b : List Nat) (e : Ending) (w' : World) : Prop := e = .returned (.agg ((turn s b).list.map w32).toArray) ∧ Below W.heap.size W w'
set_option maxRecDepth 100000 in
set_option maxHeartbeats 8000000 in
theorem turn_any (W : World) (s : St) (b : List Nat) (g o : Nat) (hb : b.length = 64) (h256 : ∀ x ∈ b, x < 256)
    (hc : ∀ (j x : Nat), b[j]? = some x → W.cell? ⟨g, o + j, none⟩ = some (.int .u8 (x : Int)))
    (hk : W.rangeAt 1 0 (consts.map w32)) :
    Calls Tryd.prog 58 #[.agg #[w32 s.a, w32 s.b, w32 s.c, w32 s.d, w32 s.e, w32 s.f, w32 s.g, w32 s.h], .slice (some ⟨g, o, none⟩) 64 64] W (TurnPost W s b) := by
  have H := Lib.hid (And.intro hb (And.intro h256 (And.intro hc hk)))
  clear hb h256 hc hk
  go_enter Tryd.func58, Tryd.ntmps58
  go_wp2_with fail
  have HT : Hid (T1 W (((W.alloc (.cells #[w32 s.a, w32 s.b, w32 s.c, w32 s.d, w32 s.e, w32 s.f, w32 s.g, w32 s.h] 92)).alloc (.cells (List.replicate 8 z32).toArray 92)).alloc (.cells (List.replicate 64 z32).toArray 104)) s b 0) := by
    refine ⟨(((Below.refl _ _).alloc (Nat.le_refl _) _).alloc (by simp) _).alloc (by simp; omega) _, by simp, ?_, ?_, ?_⟩
    · rw [heap_alloc_old, heap_alloc_old, heap_alloc_new] <;> first | rfl | (simp; done) | (simp; omega)
    · rw [heap_alloc_old]
      have := heap_alloc_new (W.alloc (.cells #[w32 s.a, w32 s.b, w32 s.c, w32 s.d, w32 s.e, w32 s.f, w32 s.g, w32 s.h] 92)) (.cells (List.replicate 8 z32).toArray 92)
      · simpa using this
      · simp
    · have := heap_alloc_new ((W.alloc (.cells #[w32 s.a, w32 s.b, w32 s.c, w32 s.d, w32 s.e, w32 s.f, w32 s.g, w32 s.h] 92)).alloc (.cells (List.replicate 8 z32).toArray 92)) (.cells (List.replicate 64 z32).toArray 104)
      simpa [wcells, wordsTo] using this
  go_loopw [19] (fun i wr => ∃ t : Nat, t ≤ 64 ∧ i = .int .i64 t ∧ Hid (T1 W wr s b t)) (fun i _ => 64 - (intOf i).toNat)
  case atStart => exact ⟨0, by omega, rfl, HT⟩
  case round =>
    obtain ⟨t, ht, rfl, hT⟩ := hrel
    by_cases h64 : t < 64
    · by_cases h16 : t < 16
      · obtain ⟨⟨x0, hx0⟩, ⟨x1, hx1⟩, ⟨x2, hx2⟩, ⟨x3, hx3⟩⟩ : (∃ x, b[4 * t]? = some x) ∧ (∃ x, b[4 * t + 1]? = some x) ∧ (∃ x, b[4 * t + 2]? = some x) ∧ (∃ x, b[4 * t + 3]? = some x) :=
          ⟨⟨_, List.getElem?_eq_getElem (by have := H.out.1; omega)⟩, ⟨_, List.getElem?_eq_getElem (by have := H.out.1; omega)⟩, ⟨_, List.getElem?_eq_getElem (by have := H.out.1; omega)⟩, ⟨_, List.getElem?_eq_getElem (by have := H.out.1; omega)⟩⟩
        have c0 := hT.out.byte H.out.2.2.1 hx0
        have c1 : wr.cell? ⟨g, o + 4 * t + 1, none⟩ = some (.int .u8 (x1 : Int)) := by have := hT.out.byte H.out.2.2.1 hx1; rwa [← Nat.add_assoc] at this
        have c2 : wr.cell? ⟨g, o + 4 * t + 2, none⟩ = some (.int .u8 (x2 : Int)) := by have := hT.out.byte H.out.2.2.1 hx2; rwa [← Nat.add_assoc] at this
        have c3 : wr.cell? ⟨g, o + 4 * t + 3, none⟩ = some (.int .u8 (x3 : Int)) := by have := hT.out.byte H.out.2.2.1 hx3; rwa [← Nat.add_assoc] at this
        have l0 := H.out.2.1 _ (List.mem_of_getElem? hx0)
        have l1 := H.out.2.1 _ (List.mem_of_getElem? hx1)
        have l2 := H.out.2.1 _ (List.mem_of_getElem? hx2)
        have l3 := H.out.2.1 _ (List.mem_of_getElem? hx3)
        obtain ⟨f1, f2⟩ := hT.out.cell h64
        have HX := Lib.hid (And.intro hx0 (And.intro hx1 (And.intro hx2 hx3)))
        clear hx0 hx1 hx2 hx3
        go_wp2_with fail
        go_still_tail 24, (by kernel_rfl)
        change wpList _ _ _ _ _ wr.drew
        go_wp2_with fail
        go_roundw
        case rel =>
          refine ⟨t + 1, by omega, by go_num, ?_⟩
          obtain ⟨hx0, hx1, hx2, hx3⟩ := HX.out
          rw [← word_bits hx0 hx1 hx2 hx3 l0 l1 l2 l3]
          have := hT.out.put h64
          unfold nextW at this
          rw [if_pos h16] at this
          exact this.drew
        case measure => simp [intOf]; omega
      · obtain ⟨m, rfl⟩ : ∃ m, t = m + 16 := ⟨t - 16, by omega⟩
        have h16' : ¬ ((m : Int) + 16 < 16) := by omega
        have d0 := hT.out.word (j := m) (by omega)
        have d1 := hT.out.word (j := m + 1) (by omega)
        have d9 := hT.out.word (j := m + 9) (by omega)
        have d14 := hT.out.word (j := m + 14) (by omega)
        obtain ⟨f1, f2⟩ := hT.out.cell h64
        obtain ⟨v0, hv0⟩ : ∃ v, v = (wordsTo b (m + 16)).getD m 0 := ⟨_, rfl⟩
        rw [← hv0] at d0
        obtain ⟨v1, hv1⟩ : ∃ v, v = (wordsTo b (m + 16)).getD (m + 1) 0 := ⟨_, rfl⟩
        rw [← hv1] at d1
        obtain ⟨v9, hv9⟩ : ∃ v, v = (wordsTo b (m + 16)).getD (m + 9) 0 := ⟨_, rfl⟩
        rw [← hv9] at d9
        obtain ⟨v14, hv14⟩ : ∃ v, v = (wordsTo b (m + 16)).getD (m + 14) 0 := ⟨_, rfl⟩
        rw [← hv14] at d14
        have HV := Lib.hid (And.intro hv0 (And.intro hv1 (And.intro hv9 hv14)))
        clear hv0 hv1 hv9 hv14
        go_wp2_with fail
        go_quiet (fail)
        go_wp2_with fail
        obtain ⟨w2, hw2⟩ : ∃ w2, w2 = wr.drewN nq := ⟨_, rfl⟩
        rw [← hw2]
        have hT2 : Hid (T1 W w2 s b (m + 16)) := by rw [hw2]; exact hT.out.drewN nq
        have d0 : w2.cell? ⟨W.heap.size + 2, m, none⟩ = some (.int .u32 (num v0)) := by rw [hw2]; exact d0
        have d9 : w2.cell? ⟨W.heap.size + 2, m + 9, none⟩ = some (.int .u32 (num v9)) := by rw [hw2]; exact d9
        have f1 : w2.cell? ⟨W.heap.size + 2, m + 16, none⟩ = some z32 := by rw [hw2]; exact f1
        have f2 : w2.frozen? ⟨W.heap.size + 2, m + 16, none⟩ = false := by rw [hw2]; exact f2
        clear hw2
        refine QTail.wp_region_quiet_tail_lit 33 (by kernel_rfl) (by kernel_rfl) ?_
        simp only [List.take_succ_cons, List.take_zero, List.drop_succ_cons, List.drop_zero]
        repeat (go_big_quiet_step (exact Calls.quiet_of (round_i _ _ (by decide) _)))
        refine wpQuiet_nil ?_
        intro _ hw'
        obtain ⟨nr, hw''⟩ := hw'
        subst hw''
        go_wp2_with fail
        go_roundw
        case rel =>
          refine ⟨m + 16 + 1, by omega, by go_num, ?_⟩
          obtain ⟨hv0, hv1, hv9, hv14⟩ := HV.out
          rw [next_bits hv0 hv1 hv9 hv14]
          exact (hT2.out.drewN nr).put h64
        case measure => simp [intOf]; omega
    · obtain rfl : t = 64 := by omega
      obtain ⟨c0, c1, c2, c3, c4, c5, c6, c7⟩ := st_cells hT.out.st
      go_upto_region 13 with (fail)
      obtain ⟨w3, hw3⟩ : ∃ w3, w3 = wr.alloc (.cells #[.int .u32 (num s.a), .int .u32 (num s.b), .int .u32 (num s.c), .int .u32 (num s.d), .int .u32 (num s.e), .int .u32 (num s.f), .int .u32 (num s.g), .int .u32 (num s.h)] 92) := ⟨_, rfl⟩
      rw [← hw3]
      obtain ⟨B, hB⟩ : ∃ B, B = wr.heap.size := ⟨_, rfl⟩
      rw [← hB]
      have hT2 : Hid (T2 W w3 s b B (stepsTo s (wordsTo b 64) 0).list) := by
        rw [hw3, hB]
        exact hT.out.alloc
      have hk3 : w3.rangeAt 1 0 (consts.map w32) := range_below H.out.2.2.2 hT2.out.below
      have hBs := hT2.out.hB
      have HK := Lib.hid (And.intro hk3 (And.intro hw3 (And.intro hB hBs)))
      obtain ⟨L, hL⟩ : ∃ L, L = consts.map w32 := ⟨_, rfl⟩
      rw [← hL] at hk3
      obtain ⟨C, hC⟩ : ∃ C, C = L.toArray := ⟨_, rfl⟩
      have hix := fun (t : Nat) (ht : t < 64) (w : World) => run_index_consts w t ht
      rw [← hL, ← hC] at hix
      have HIX := Lib.hid hix
      clear hw3 hB hBs c0 c1 c2 c3 c4 c5 c6 c7 hix
      have hCs : (Tryd.prog.info? 104).map (·.size) = some L.length := by rw [hL]; kernel_rfl
      have HC := Lib.hid hCs
      have HCC := Lib.hid hC
      have hk3 := Lib.hid hk3
      clear hCs hC hL
      go_wp2_with (refine wpList_load_mid rfl 104 _ rfl 1 0 rfl L _ hk3.out Tryd.underlying104 rfl HC.out ?_; rw [← HCC.out])
      clear hk3
      go_loopw [97] (fun i wr => ∃ t : Nat, t ≤ 64 ∧ i = .int .i64 t ∧ Hid (T2 W wr s b B (stepsTo s (wordsTo b 64) t).list)) (fun i _ => 64 - (intOf i).toNat)
      case atStart => exact ⟨0, by omega, rfl, hT2⟩
      case round =>
        obtain ⟨t, ht, rfl, hT⟩ := hrel
        by_cases h64 : t < 64
        · obtain ⟨c0, c1, c2, c3, c4, c5, c6, c7⟩ := st_cells hT.out.cur
          have i0 := HIX.out t h64
          have d := hT.out.word h64
          obtain ⟨x, hx⟩ : ∃ x, x = stepsTo s (wordsTo b 64) t := ⟨_, rfl⟩
          obtain ⟨kk, hkk⟩ : ∃ x, x = consts.getD t 0 := ⟨_, rfl⟩
          obtain ⟨ww, hww⟩ : ∃ x, x = (wordsTo b 64).getD t 0 := ⟨_, rfl⟩
          rw [← hx] at hT c0 c1 c2 c3 c4 c5 c6 c7
          rw [← hkk] at i0
          rw [← hww] at d
          have HX := Lib.hid (And.intro hx (And.intro hkk hww))
          clear hx hkk hww
          go_upto_region 16 with (fail)
          go_quiet (fail)
          obtain ⟨w4, hw4⟩ : ∃ w4, w4 = wr.drewN nq := ⟨_, rfl⟩
          rw [← hw4]
          have hT4 : Hid (T2 W w4 s b B x.list) := by rw [hw4]; exact hT.out.drewN nq
          obtain ⟨c0, c1, c2, c3, c4, c5, c6, c7⟩ := st_cells hT4.out.cur
          have d : w4.cell? ⟨W.heap.size + 2, t, none⟩ = some (.int .u32 (num ww)) := by rw [hw4]; exact d
          clear hw4
          go_wp2_with fail
          go_quiet (exact Calls.quiet_of (round_i _ _ (by decide) _))
          obtain ⟨w5, hw5⟩ : ∃ w5, w5 = w4.drewN nq := ⟨_, rfl⟩
          rw [← hw5]
          have hT5 : Hid (T2 W w5 s b B x.list) := by rw [hw5]; exact hT4.out.drewN nq
          obtain ⟨c0, c1, c2, c3, c4, c5, c6, c7⟩ := st_cells hT5.out.cur
          clear hw5 d
          go_wp2_with fail
          go_quiet (exact Calls.quiet_of (round_i _ _ (by decide) _))
          obtain ⟨w6, hw6⟩ : ∃ w6, w6 = w5.drewN nq := ⟨_, rfl⟩
          rw [← hw6]
          have hT6 : Hid (T2 W w6 s b B x.list) := by rw [hw6]; exact hT5.out.drewN nq
          obtain ⟨c0, c1, c2, c3, c4, c5, c6, c7⟩ := st_cells hT6.out.cur
          clear hw6
          obtain ⟨f0, f1, f2, f3, f4, f5, f6, f7⟩ := st_frozen hT6.out.cur
          go_wp2_with fail
          go_roundw
          case rel =>
            refine ⟨t + 1, by omega, by go_num, ?_⟩
            obtain ⟨hx, hkk, hww⟩ := HX.out
            have e : stepsTo s (wordsTo b 64) (t + 1) = Sha.step x kk ww := by rw [hx, hkk, hww]; rfl
            rw [e, step_bits_a, step_bits_e]
            exact hT6.out.put8 (Sha.step x kk ww)
          case measure => simp [intOf]; omega
        · obtain rfl : t = 64 := by omega
          obtain ⟨x, hx⟩ : ∃ x, x = stepsTo s (wordsTo b 64) 64 := ⟨_, rfl⟩
          rw [← hx] at hT
          have HX := Lib.hid hx
          clear hx
          go_wp2_with fail
          go_loopw [179] (fun i wr => ∃ t : Nat, t ≤ 8 ∧ i = .int .i64 t ∧ Hid (T2 W wr s b B (mix x s t))) (fun i _ => 8 - (intOf i).toNat)
          case atStart => exact ⟨0, by omega, rfl, hT⟩
          case round =>
            obtain ⟨t, ht, rfl, hT⟩ := hrel
            by_cases h8 : t < 8
            · have c0 := hT.out.curAt (mix_get x s h8)
              have c1 := hT.out.stAt (list_get s h8)
              have f0 := frozen_of_row _ _ t _ _ hT.out.cur
              obtain ⟨va, hva⟩ : ∃ x' : W32, x' = x.list.getD t 0 := ⟨_, rfl⟩
              obtain ⟨vb, hvb⟩ : ∃ x' : W32, x' = s.list.getD t 0 := ⟨_, rfl⟩
              rw [← hva] at c0
              rw [← hvb] at c1
              have HV := Lib.hid (And.intro hva hvb)
              clear hva hvb
              go_wp2_with fail
              refine QTail.wp_region_quiet_tail_lit 8 (by kernel_rfl) (by kernel_rfl) ?_
              simp only [List.take_succ_cons, List.take_zero, List.drop_succ_cons, List.drop_zero]
              repeat (go_big_quiet_step (fail))
              refine wpQuiet_nil ?_
              intro _ hw'
              obtain ⟨nr, hw''⟩ := hw'
              subst hw''
              go_wp2_with fail
              go_roundw
              case rel =>
                refine ⟨t + 1, by omega, by go_num, ?_⟩
                obtain ⟨hva, hvb⟩ := HV.out
                have h9 := (hT.out.drewN nr).put t (va + vb)
                rw [hva, hvb, mix_set x s h8, ← hva, ← hvb] at h9
                rw [add_bits]
                exact h9
              case measure => simp [intOf]; omega
            · obtain rfl : t = 8 := by omega
              obtain ⟨c0, c1, c2, c3, c4, c5, c6, c7⟩ := st_cells (s := x.add s) (T := 92) hT.out.cur
              obtain ⟨f0, f1, f2, f3, f4, f5, f6, f7⟩ := zero_frozen hT.out.res
              obtain ⟨d0, d1, d2, d3, d4, d5, d6, d7⟩ := zero_cells hT.out.res
              go_wp2_with fail
              have hT8 := hT.out.res8 (x.add s)
              refine bodyPost_ret (results_cell_row (by rfl) _ _ (W.heap.size + 1) 92 ((x.add s).list.map w32).toArray (0, 0) _ (by rfl) hT8.1 Tryd.underlying92 (by rfl) (by kernel_rfl)) rfl ⟨?_, hT8.2⟩
              rw [HX.out]
              rfl
end Go.Proofs.YtplcjgpmainbnaaDoor.ShaW
