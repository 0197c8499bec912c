/- KvGoes, walked. -/
import Derived.Test.YtackjeckafoojaaKvGo2
namespace Go.Proofs.Ytackjeckafoojaa.KvI
open Go.RowKit Kv
attribute [local go_sem ↓] Kit.execOp_call_slot
attribute [local go_sem] Kit.callSlot_func

set_option maxRecDepth 100000 in
set_option maxHeartbeats 4000000 in
theorem goes_good (W : World) (p z : Nat) (hp : 1 ≤ p ∧ p ≤ 12) (hz : 1 ≤ z ∧ z ≤ 8) (v : Value) (l : List (Int × Int × Int)) (h0 : RdO W v l) (hl : l.length ≤ 50) :
    Calls Try.prog 3 #[.agg #[.int .i64 (p : Int), .int .i64 (z : Int)], v] W fun e w' => e = .returned (.bool true) ∧ Below W.heap.size W w' := by
  obtain ⟨A0, c0, rfl⟩ := h0.form
  have hok : okTwo (p : Int) (z : Int) = true := by simp [okTwo]; omega
  have hpz : p * z ≤ 96 := Nat.mul_le_mul hp.2 hz.2
  obtain ⟨q, hq⟩ : ∃ q, q = p * z := ⟨_, rfl⟩
  have hq1 : (p : Int) * (z : Int) = (q : Int) := by rw [hq]; simp
  have hq2 : (q : Int) ≤ 96 := by omega
  have HR := Lib.hid (fun w => right_run w (p : Int) (z : Int))
  have HN := Lib.hid (fun w => at_new w p z (by omega) (by omega))
  have HL := Lib.hid h0
  have HP := Lib.hid (And.intro hp hz)
  have HQ := Lib.hid hq
  have g5 : ¬ (50 : Int) < (l.length : Int) := by omega
  have g5' : (l.length : Int) ≤ 50 := by omega
  have HE : ∀ w1, w1 = (W.alloc (.cells #[.int .i64 (p : Int), .int .i64 (z : Int)] 22)).alloc (.cells #[.int .i64 (p : Int), .int .i64 (z : Int)] 22) → TwoEnv W w1 p z := by
    rintro w1 rfl
    refine ⟨((Below.refl W.heap.size W).alloc (Nat.le_refl _) _).alloc (by simp) _, by simp, ?_⟩
    rw [Below.heap_alloc _ _ _ (by simp)]
    exact heap_alloc_new _ _
  have HE := Lib.hid HE
  clear h0 hp hz hpz hq
  go_enter Try.func3, Try.ntmps3
  go_wp2_with fail
  with_reducible refine Calls.mono (HR.out _) ?_
  rintro e w1 ⟨rfl, hw⟩
  rw [hok]
  have hE := HE.out w1 hw
  clear hw
  obtain ⟨p0, p1⟩ := hE.cells
  have HE1 := Lib.hid hE
  clear hE
  go_wp2_with fail
  with_reducible refine Calls.mono (HN.out w1) ?_
  rintro e w2 ⟨rfl, h2⟩
  clear p0 p1
  have H2 := Lib.hid h2
  have HS0 := Lib.hid (small_new p z ⟨HP.out.1.1, by have := HP.out.1.2; omega⟩ ⟨HP.out.2.1, by have := HP.out.2.2; omega⟩)
  clear h2
  go_wp2_with fail
  go_loopw [7] (fun vi wr => ∃ (k : Nat) (s : PSt Int), vi = .int .i64 k ∧ k ≤ l.length ∧ Hid (Small s p z k) ∧ Hid (At w1.heap.size (w1.heap.size + 2) w1 (fun _ => False) wr s))
    (fun vi _ => l.length - (intOf vi).toNat)
  case atStart => exact ⟨0, _, rfl, Nat.zero_le _, HS0, H2⟩
  case round =>
    obtain ⟨k, s, rfl, hk, hS, hA⟩ := hrel
    obtain ⟨p0, p1⟩ := (HE1.out.keep HE1.out.size hA.out.below).cells
    have k1 : (k : Int) ≤ 50 := by omega
    by_cases hlt : k < l.length
    · have hlt' : (k : Int) < (l.length : Int) := by omega
      obtain ⟨⟨a, b, c⟩, hx⟩ : ∃ x, l[k]? = some x := ⟨_, List.getElem?_eq_getElem hlt⟩
      obtain ⟨ad, cp, e', -⟩ := HL.out.cell k a b c hx
      injection e' with e1 _ e3
      subst e1
      subst e3
      obtain ⟨x0, x1, x2⟩ := (HL.out.below (HE1.out.keep HE1.out.size hA.out.below).below).at hx
      have HC := Lib.hid (fun W' hb => do_call hA.out hS.out.inv (p : Int) (z : Int) a b c W' hb)
      have HS' := Lib.hid (small_do hS.out a b c)
      have HX := Lib.hid hx
      clear hx
      go_wp2_with fail
      go_region_held3 (fun w' => w'.cell? ⟨W.heap.size, 0, none⟩ = some (.int .i64 p) ∧ w'.cell? ⟨W.heap.size, 1, none⟩ = some (.int .i64 z) ∧ w'.cell? (ad.add (k * 3)) = some (.int .i64 a) ∧ w'.cell? ⟨(ad.add (k * 3)).block, (ad.add (k * 3)).off + 1, none⟩ = some (.int .i64 b) ∧ w'.cell? ⟨(ad.add (k * 3)).block, (ad.add (k * 3)).off + 2, none⟩ = some (.int .i64 c)) (first | exact ⟨p0, p1, x0, x1, x2⟩ | assumption | go_keep)
        (first | (go_at_call 11; refine Calls.mono (HC.out _ (below_undrew (Below.refl _ _))) ?_; rintro e w3 ⟨⟨b', rfl⟩, h3⟩; have H3 := Lib.hid h3; obtain ⟨p0, p1⟩ := (HE1.out.keep HE1.out.size h3.below).cells; obtain ⟨x0, x1, x2⟩ := (HL.out.below (HE1.out.keep HE1.out.size h3.below).below).at HX.out; clear h3))
      go_wp2_with fail
      go_roundw
      case rel => exact ⟨k + 1, _, by go_num, by omega, HS', H3⟩
      case measure => simp [intOf]; omega
    · have hlt' : ¬ (k : Int) < (l.length : Int) := by omega
      have HS := Lib.hid (show Closed s p z 0 from ⟨⟨hS.out.inv, hS.out.np, hS.out.sz, by have := hS.out.rows; omega⟩, fun j hj => by omega⟩)
      clear hS hlt hk k1
      go_wp2_with fail
      go_loopw [8] (fun vi wr => ∃ (k : Nat) (s : PSt Int), vi = .int .i64 k ∧ k ≤ 60 ∧ Hid (Closed s p z k) ∧ Hid (At w1.heap.size (w1.heap.size + 2) w1 (fun _ => False) wr s))
        (fun vi _ => 60 - (intOf vi).toNat)
      case atStart => exact ⟨0, s, rfl, Nat.zero_le _, HS, hA⟩
      case round =>
        clear p0 p1 hA HS
        obtain ⟨k, s, rfl, hk, hS, hA⟩ := hrel
        obtain ⟨p0, p1⟩ := (HE1.out.keep HE1.out.size hA.out.below).cells
        have k1 : (k : Int) ≤ 60 := by omega
        by_cases hlt : k < 60
        · have hlt' : (k : Int) < 60 := by omega
          have HC := Lib.hid (at_close hA.out hS.out.small.inv (k : Int))
          have HS' := Lib.hid (shut_step hS.out)
          go_wp2_with fail
          with_reducible refine Calls.mono HC.out ?_
          rintro e w3 ⟨rfl, h3, -⟩
          have H3 := Lib.hid h3
          clear h3
          go_wp2_with fail
          go_roundw
          case rel => exact ⟨k + 1, _, by go_num, by omega, HS', H3⟩
          case measure => simp [intOf]; omega
        · have hlt' : ¬ (k : Int) < 60 := by omega
          obtain rfl : k = 60 := by omega
          have HF := Lib.hid (fun W' (hb : Below wr.heap.size wr W') => apart_free (hA.out.ap.below hb) hS.out.small.inv)
          rw [shut_free hS.out] at HF
          obtain ⟨hg1, hg2⟩ := goes_start hS.out
          obtain ⟨id, hid⟩ : ∃ id, id = s.rows.length := ⟨_, rfl⟩
          rw [← hid] at hg1 hg2
          obtain ⟨s1, hs1⟩ : ∃ s1, s1 = (s.open_ [] 0).1 := ⟨_, rfl⟩
          rw [← hs1] at hg1 hg2
          have HG := Lib.hid hg2
          have hid1 : (id : Int) ≤ 50 := by have := hS.out.small.rows; omega
          have HO := Lib.hid (fun W' (hb : Below wr.heap.size wr W') => at_open (hA.out.call (hA.out.ap.below hb) (hb.mono hA.out.size)) hS.out.small.inv)
          rw [hg1] at HO
          clear hg1 hg2 hs1 hid hlt hk k1
          go_wp2_with fail
          go_region_held3 (fun w' => w'.cell? ⟨W.heap.size, 0, none⟩ = some (.int .i64 p)) (first | exact p0 | assumption | go_keep)
            (first | (go_at_call 13; refine Calls.mono (HF.out _ (below_undrew (Below.refl _ _))) ?_; rintro e w3 ⟨rfl, hb3⟩; have p0 := cell_keep (a := ⟨W.heap.size, 0, none⟩) (hb3.block _ (block_lt_of_cell (by simpa using p0))) p0; have HB3 := Lib.hid (below_undrew hb3); clear hb3))
          go_wp2_with fail
          with_reducible refine Calls.mono (HO.out _ HB3.out) ?_
          rintro e w4 ⟨rfl, h4, -⟩
          have H4 := Lib.hid h4
          clear h4
          go_wp2_with fail
          go_loopw [11] (fun vi wr => ∃ (k : Nat) (s : PSt Int), vi = .int .i64 k ∧ k ≤ q ∧ Hid (Goes s p z id k) ∧ Hid (At w1.heap.size (w1.heap.size + 2) w1 (fun _ => False) wr s))
            (fun vi _ => q - (intOf vi).toNat)
          case atStart => exact ⟨0, s1, rfl, Nat.zero_le _, HG, H4⟩
          case round =>
            clear p0 p1 hA HG
            obtain ⟨k, s, rfl, hk, hS, hA⟩ := hrel
            obtain ⟨p0, p1⟩ := (HE1.out.keep HE1.out.size hA.out.below).cells
            have k1 : (k : Int) ≤ 96 := by omega
            by_cases hlt : k < q
            · have hlt' : (k : Int) < (q : Int) := by omega
              have HC := Lib.hid (at_append hA.out hS.out.inv (id : Int) (k : Int))
              obtain ⟨hs1, hs2⟩ := goes_step hS.out (by have := HQ.out; omega)
              have HS' := Lib.hid hs2
              rw [hs1] at HC
              clear hs1 hs2
              go_wp2_with fail
              with_reducible refine Calls.mono HC.out ?_
              rintro e w5 ⟨rfl, h5, -⟩
              have H5 := Lib.hid h5
              clear h5
              go_wp2_with fail
              go_roundw
              case rel => exact ⟨k + 1, _, by go_num, by omega, HS', H5⟩
              case measure => simp [intOf]; omega
            · have hlt' : ¬ (k : Int) < (q : Int) := by omega
              obtain rfl : k = q := by omega
              clear hlt hk
              have HRW := Lib.hid (apart_row hA.out.ap hS.out.inv (id : Int) (by rw [hS.out.all]; simp; omega))
              rw [hS.out.all] at HRW
              obtain ⟨hf0, hfull⟩ := goes_full (show Goes s p z id (p * z) by rw [← HQ.out]; exact hS.out) 0
              go_wp2_with fail
              with_reducible refine Calls.mono HRW.out ?_
              rintro e w5 ⟨v5, rfl, hv5⟩
              have hA5 : At w1.heap.size (w1.heap.size + 2) w1 (fun j => wr.heap.size ≤ j ∧ j < w5.heap.size) w5 s :=
                ⟨((hA.out.ap.none_ge hA.out.size hA.out.lt).weaken (fun j hj => .inr hj.1)).below hv5.below, fun j hj => hj.2, Nat.le_trans hA.out.size hv5.below.size, hA.out.below.trans (hv5.below.mono hA.out.size)⟩
              have hr5 : RdI w5 v5 (upTo k) := RdI.of_own hv5.own
              have hrb : ∀ j, v5.ownBlock = some j → wr.heap.size ≤ j ∧ j < w5.heap.size := fun j hj => hv5.own.lt j hj
              obtain ⟨A5, c5, e5⟩ := hr5.form
              rw [upTo_length] at e5
              subst e5
              obtain ⟨p0, p1⟩ := (HE1.out.keep HE1.out.size hA5.below).cells
              have HR5 := Lib.hid (And.intro hr5 hrb)
              have HF5 := Lib.hid (apart_free hA5.ap hS.out.inv)
              rw [hf0] at HF5
              have HA5 := Lib.hid (fun W' (hb : Below w5.heap.size w5 W') => at_append (hA5.call (hA5.ap.below hb) (hb.mono hA5.size)) hS.out.inv (id : Int) 0)
              rw [hfull] at HA5
              clear hv5 hA5 hr5 hrb hf0 hfull HRW
              go_wp2_with fail
              with_reducible refine Calls.mono HF5.out ?_
              rintro e w6 ⟨rfl, hb6⟩
              have HB6 := Lib.hid hb6
              clear hb6
              go_wp2_with fail
              with_reducible refine Calls.mono (HA5.out _ HB6.out) ?_
              rintro e w7 ⟨rfl, h7, hk7⟩
              have HR7 : Hid (RdI w7 (.slice A5 k c5) (upTo k)) := HR5.out.1.heap (fun j hj => (hk7 j (HR5.out.2 j hj)).trans (HB6.out.block j (HR5.out.2 j hj).2))
              have H7 := Lib.hid h7
              clear h7 hk7
              go_wp2_with fail
              go_loopw [14] (fun vi wr => ∃ j : Nat, vi = .int .i64 j ∧ j ≤ k ∧ wr = w7) (fun vi _ => k - (intOf vi).toNat)
              case atStart => exact ⟨0, rfl, Nat.zero_le _, rfl⟩
              case round =>
                obtain ⟨j, rfl, hj, rfl⟩ := hrel
                by_cases hlt : j < k
                · have hlt' : (j : Int) < (k : Int) := by omega
                  obtain ⟨g, cp, e', x0⟩ := HR7.out.cell j (j : Int) (by simp [upTo, hlt])
                  injection e' with e1 e2 e3
                  clear e2
                  subst e1
                  subst e3
                  go_wp2_with fail
                  go_roundw
                  case rel => exact ⟨j + 1, by go_num, by omega, by first | rfl | trivial⟩
                  case measure => simp [intOf]; omega
                · have hlt' : ¬ (j : Int) < (k : Int) := by omega
                  go_wp2_with fail
                  with_reducible refine Calls.mono (KvB.awake_run _) ?_
                  rintro e w10 ⟨rfl, hb⟩
                  have HB := Lib.hid hb
                  clear hb
                  go_wp2_with fail
                  go_ret
                  exact ⟨rfl, HE1.out.below.trans ((H7.out.below.trans (HB.out.mono H7.out.size)).mono (by have := HE1.out.size; omega))⟩
end Go.Proofs.Ytackjeckafoojaa.KvI
