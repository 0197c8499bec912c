import Derived.Test.YtlgoclfdjlmjnaaPlace
namespace Go.Proofs.Ytlgoclfdjlmjnaa.Cfg
open Go.RowKit Go.Shelf
attribute [local go_sem ↓] Kit.execOp_call_slot
attribute [local go_sem] Kit.callSlot_func

theorem sizes_any (c : C6) (w : World) :
    Calls Try.prog 9 #[.agg #[.int .i64 c.v, .int .i64 c.d, .int .i64 c.h, .int .i64 c.l, .int .i64 c.c, .int .i64 c.x]] w fun e w' =>
      e = .returned (.agg #[.int .i64 c.v, .int .i64 c.d, .int .i64 c.h, .int .i64 c.l, .int .i64 c.c, .int .i64 c.x]) ∧ Below w.heap.size w w' := by
  go_enter Try.func9, Try.ntmps9
  go_wp2_with fail
  refine bodyPost_ret (v := .agg #[.int .i64 c.v, .int .i64 c.d, .int .i64 c.h, .int .i64 c.l, .int .i64 c.c, .int .i64 c.x]) (by simp [results, Try.f9, go_sem]) rfl ⟨rfl, ?_⟩
  exact ((Below.refl _ _).alloc (Nat.le_refl _) _).alloc (by simp) _

def C6.at_ (c : C6) : Nat → Int | 0 => c.v | 1 => c.d | 2 => c.h | 3 => c.l | 4 => c.c | _ => c.x
def most6 : Nat → Int | 0 => 512 | 1 => 64 | 2 => 8 | 3 => 4 | _ => 64
def C6.okAt (c : C6) (k : Nat) : Prop := 1 ≤ c.at_ k ∧ c.at_ k ≤ most6 k ∧ (k = 1 → 2 ≤ c.at_ k)
theorem range_iff (c : C6) : c.range = true ↔ ∀ k, k < 6 → c.okAt k := by
  have e : c.range = true ↔ ((1 ≤ c.v ∧ c.v ≤ 512) ∧ (2 ≤ c.d ∧ c.d ≤ 64) ∧ (1 ≤ c.h ∧ c.h ≤ 8) ∧ (1 ≤ c.l ∧ c.l ≤ 4) ∧ (1 ≤ c.c ∧ c.c ≤ 64) ∧ (1 ≤ c.x ∧ c.x ≤ 64)) := by
    simp [C6.range, chkB]
  rw [e]
  constructor
  · intro h k hk
    match k, hk with
    | 0, _ => simp [C6.okAt, C6.at_, most6]; omega
    | 1, _ => simp [C6.okAt, C6.at_, most6]; omega
    | 2, _ => simp [C6.okAt, C6.at_, most6]; omega
    | 3, _ => simp [C6.okAt, C6.at_, most6]; omega
    | 4, _ => simp [C6.okAt, C6.at_, most6]; omega
    | 5, _ => simp [C6.okAt, C6.at_, most6]; omega
  · intro h
    have h0 := h 0 (by omega)
    have h1 := h 1 (by omega)
    have h2 := h 2 (by omega)
    have h3 := h 3 (by omega)
    have h4 := h 4 (by omega)
    have h5 := h 5 (by omega)
    simp [C6.okAt, C6.at_, most6] at h0 h1 h2 h3 h4 h5
    omega

theorem below_drewN {B : Nat} {w W : World} (h : Below B w W) (n : Nat) : Below B w (W.drewN n) := ⟨h.os, h.tape, h.output, h.size, h.block⟩
theorem chk_bad {c : C6} {k : Nat} (hk : k < 6) (h : ¬ c.okAt k) : c.chk = 10 := by
  have : c.range = false := by
    rw [Bool.eq_false_iff]
    intro hr
    exact h ((range_iff c).1 hr k hk)
  unfold C6.chk
  rw [this]
  rfl

set_option maxRecDepth 100000 in
set_option maxHeartbeats 4000000 in
theorem refCheck_any (c : C6) (w : World) :
    Calls Try.prog 10 #[.agg #[.int .i64 c.v, .int .i64 c.d, .int .i64 c.h, .int .i64 c.l, .int .i64 c.c, .int .i64 c.x]] w fun e w' =>
      e = .returned (.int .i64 c.chk) ∧ Below w.heap.size w w' := by
  obtain ⟨w2, hw2⟩ : ∃ w2, w2 = (w.alloc (.cells #[.int .i64 c.v, .int .i64 c.d, .int .i64 c.h, .int .i64 c.l, .int .i64 c.c, .int .i64 c.x] 27)).alloc (.cells #[.int .i64 512, .int .i64 64, .int .i64 8, .int .i64 4, .int .i64 64, .int .i64 64] 26) := ⟨_, rfl⟩
  have hc : ∀ k, k < 6 → w2.cell? ⟨w.heap.size, k, none⟩ = some (.int .i64 (c.at_ k)) := by
    intro k hk
    have h1 : w2.heap[w.heap.size]? = some (.cells #[.int .i64 c.v, .int .i64 c.d, .int .i64 c.h, .int .i64 c.l, .int .i64 c.c, .int .i64 c.x] 27 (0, 0)) := by
      rw [hw2]; exact (Below.heap_alloc _ _ _ (by simp)).trans (heap_alloc_new _ _)
    rw [cell_of_row w2 _ k _ _ _ h1]
    match k, hk with
    | 0, _ => rfl
    | 1, _ => rfl
    | 2, _ => rfl
    | 3, _ => rfl
    | 4, _ => rfl
    | 5, _ => rfl
  have hm : ∀ k, k < 6 → w2.cell? ⟨w.heap.size + 1, k, none⟩ = some (.int .i64 (most6 k)) := by
    intro k hk
    have h1 : w2.heap[w.heap.size + 1]? = some (.cells #[.int .i64 512, .int .i64 64, .int .i64 8, .int .i64 4, .int .i64 64, .int .i64 64] 26 (0, 0)) := by
      rw [hw2]
      have e : (w.alloc (.cells #[.int .i64 c.v, .int .i64 c.d, .int .i64 c.h, .int .i64 c.l, .int .i64 c.c, .int .i64 c.x] 27)).heap.size = w.heap.size + 1 := by simp
      rw [← e]; exact heap_alloc_new _ _
    rw [cell_of_row w2 _ k _ _ _ h1]
    match k, hk with
    | 0, _ => rfl
    | 1, _ => rfl
    | 2, _ => rfl
    | 3, _ => rfl
    | 4, _ => rfl
    | 5, _ => rfl
  have hb : Below w.heap.size w w2 := by rw [hw2]; exact ((Below.refl _ _).alloc (Nat.le_refl _) _).alloc (by simp) _
  have HW := Lib.hid hw2
  have HC := Lib.hid hc
  have HM := Lib.hid hm
  have HB := Lib.hid hb
  clear hw2 hc hm hb
  go_enter Try.func10, Try.ntmps10
  go_wp2_with fail
  rw [← HW.out]
  go_loopw [4] (fun i wr => ∃ k n : Nat, k ≤ 6 ∧ i = .int .i64 k ∧ Hid (∀ j, j < k → c.okAt j) ∧ wr = w2.drewN n)
    (fun i _ => 6 - (intOf i).toNat)
  case atStart => exact ⟨0, 0, by omega, rfl, Lib.hid (by intro j hj; omega), rfl⟩
  case round =>
    obtain ⟨k, n, hk, rfl, hok, rfl⟩ := hrel
    by_cases hlt : k < 6
    · have hck := HC.out k hlt
      have hmk := HM.out k hlt
      have ge : (0 : Int) ≤ (k : Int) := by omega
      have lt : (k : Int) < 6 := by omega
      by_cases h1 : c.at_ k < 1
      · have d1 : decide (c.at_ k < 1) = true := by simpa using h1
        have HX : Hid (c.chk = 10) := chk_bad hlt (fun h => by have := h.1; omega)
        go_wp2_with fail
        go_quiet (fail)
        go_wp2_with fail
        go_ret
        exact ⟨by rw [HX.out]; rfl, below_drewN (below_drewN HB.out _) _⟩
      · have d1 : decide (c.at_ k < 1) = false := by simpa using h1
        by_cases h2 : c.at_ k > most6 k
        · have d2 : decide (c.at_ k > most6 k) = true := by simpa using h2
          have HX : Hid (c.chk = 10) := chk_bad hlt (fun h => by have := h.2.1; omega)
          go_wp2_with fail
          go_quiet (fail)
          go_wp2_with fail
          go_ret
          exact ⟨by rw [HX.out]; rfl, below_drewN (below_drewN HB.out _) _⟩
        · have d2 : decide (c.at_ k > most6 k) = false := by simpa using h2
          by_cases h3 : k = 1
          · subst h3
            by_cases h4 : c.at_ 1 < 2
            · have d4 : decide (c.at_ 1 < 2) = true := by simpa using h4
              have HX : Hid (c.chk = 10) := chk_bad hlt (fun h => by have := h.2.2 rfl; omega)
              go_wp2_with fail
              go_quiet (fail)
              go_wp2_with fail
              go_ret
              exact ⟨by rw [HX.out]; rfl, below_drewN (below_drewN HB.out _) _⟩
            · have d4 : decide (c.at_ 1 < 2) = false := by simpa using h4
              have HG : Hid (∀ j, j < 1 + 1 → c.okAt j) := by
                intro j hj
                by_cases hjk : j = 1
                · subst hjk; exact ⟨by omega, by omega, fun _ => by omega⟩
                · exact hok.out j (by omega)
              go_wp2_with fail
              go_quiet (fail)
              go_wp2_with fail
              go_roundw
              case rel => exact ⟨1 + 1, _, by omega, by first | rfl | go_num, HG, rfl⟩
              case measure => (simp [intOf] <;> omega)
          · have d3 : ((k : Int) == 1) = false := by simp; omega
            have HG : Hid (∀ j, j < k + 1 → c.okAt j) := by
              intro j hj
              by_cases hjk : j = k
              · subst hjk; exact ⟨by omega, by omega, fun h => absurd h h3⟩
              · exact hok.out j (by omega)
            go_wp2_with fail
            go_quiet (fail)
            go_wp2_with fail
            go_roundw
            case rel => exact ⟨k + 1, _, by omega, by first | rfl | go_num, HG, rfl⟩
            case measure => (simp [intOf] <;> omega)
    · obtain rfl : k = 6 := by omega
      have hr : c.range = true := (range_iff c).2 hok.out
      have hx1 := HC.out 1 (by omega)
      have hx2 := HC.out 2 (by omega)
      have hb := hr
      simp only [C6.range, Bool.and_eq_true] at hb
      have b1 : 2 ≤ c.at_ 1 ∧ c.at_ 1 ≤ 64 := chkB_of hb.2.1
      have b2 : 1 ≤ c.at_ 2 ∧ c.at_ 2 ≤ 8 := chkB_of hb.2.2.1
      have HX : Hid (c.chk = if c.at_ 1 % (2 * c.at_ 2) = 0 then 0 else 13) := by
        show c.chk = _
        unfold C6.chk
        rw [hr, if_pos rfl]
        rfl
      have hz : ((2 : Int) * c.at_ 2 == 0) = false := by simp; omega
      clear hb hr hok
      go_wp2_with fail
      · have hd : (c.at_ 1 % (2 * c.at_ 2) != 0) = true := by assumption
        go_ret
        exact ⟨by rw [HX.out, if_neg (by simpa using hd)]; rfl, below_drewN HB.out _⟩
      · have hd : (c.at_ 1 % (2 * c.at_ 2) != 0) = false := by assumption
        go_ret
        exact ⟨by rw [HX.out, if_pos (by simpa using hd)]; rfl, below_drewN HB.out _⟩
end Go.Proofs.Ytlgoclfdjlmjnaa.Cfg
