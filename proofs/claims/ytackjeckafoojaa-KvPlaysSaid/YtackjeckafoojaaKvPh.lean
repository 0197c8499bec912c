/- What is asked of both pools. -/
import Derived.Test.YtackjeckafoojaaKvPg
set_option linter.unusedVariables false
set_option linter.unusedSimpArgs false
namespace Go.Proofs.Ytackjeckafoojaa.KvI
open Go.RowKit Kv
attribute [local go_sem ↓] Kit.execOp_call_slot
attribute [local go_sem] Kit.callSlot_func
section
variable {B G R p z : Nat} {F : Nat → Prop} {w w0 : World} {s : PSt Int}
def lenOfId (s : PSt Int) (id : Int) : Int × Int := match s.find id with
  | some (_, n) => ((n : Int), 0)
  | none => (0, 14)
theorem apart_len (h : Apart K enc B G w s F) (id : Int) : Calls Try.prog 23 #[.pointer (some ⟨G, 0, none⟩), .int .i64 id] w fun e w' => e = .returned (.tuple #[.int .i64 (lenOfId s id).1, .int .i64 (lenOfId s id).2]) ∧ w = w' := by
  obtain ⟨ρ, L, a, rfl, c, d⟩ := h
  unfold lenOfId
  cases hf : s.find id with
  | none => exact len_none a hf
  | some r => obtain ⟨ps, n⟩ := r; exact len_some a hf
theorem apart_pages2 (h : Apart K enc B G w s F) (hi : Inv s) (id : Int) : Calls Try.prog 19 #[.pointer (some ⟨G, 0, none⟩), .int .i64 id] w fun e w' => ∃ v, e = .returned v ∧ RdI w' v ((((s.find id).map (·.1)).getD []).map fun q : Nat => (q : Int)) ∧ Below w.heap.size w w' := by
  obtain ⟨ρ, L, a, rfl, c, d⟩ := h
  refine (pages_any a id ?_).mono ?_
  · intro ps n hf
    have := hi.ps_len (find_row hf).2
    omega
  · rintro e w' ⟨v, rfl, h2⟩
    refine ⟨v, rfl, RdI.of_own (e := 3) (base := w.heap.size) ?_, h2.below⟩
    have h3 := h2.own
    rw [List.length_map]
    have e1 : ((((s.find id).map (·.1)).getD []).map fun p : Nat => (p : Int)).map encI = ints (((s.find id).map (·.1)).getD []) := by
      rw [List.map_map]; rfl
    rw [e1]
    exact h3
theorem count_neg (h : Apart K enc B G w s F) : Calls Try.prog 20 #[.pointer (some ⟨G, 0, none⟩), .int .i64 (-1)] w fun e w' => e = .returned (.int .i64 0) ∧ w = w' := by
  obtain ⟨ρ, L, a, rfl, c, d⟩ := h
  obtain ⟨c0, c1, c2, c3⟩ := a.cells
  clear a
  go_enter Try.func20, Try.ntmps20
  go_wp2_with fail
  go_ret
  exact ⟨rfl, rfl⟩
theorem all_short (hs : Small s p z 60) (hp : p ≤ 12) (hz : z ≤ 8) (id : Int) : (s.all 0 id).length ≤ 96 := by
  by_cases h0 : 0 ≤ id
  · obtain ⟨i, rfl⟩ := Int.eq_ofNat_of_zero_le h0
    exact all_le hs hp hz i
  · have hf : s.find id = none := by unfold PSt.find; rw [if_neg h0]
    unfold PSt.all
    rw [hf]
    simp
end
end Go.Proofs.Ytackjeckafoojaa.KvI
namespace Go.Proofs.Ytackjeckafoojaa.KvI
open Go.RowKit Kv
attribute [local go_sem ↓] Kit.execOp_call_slot
attribute [local go_sem] Kit.callSlot_func
section
variable {B G R p z : Nat} {w w0 : World} {s : PSt Int}
theorem Both.run (h : Both B G R p z w0 w s s.rowsOf (fun _ => False)) : Apart K enc B G w s (fun _ => False) := by
  obtain ⟨ρ, Y, a, b, c, d, e⟩ := h
  exact c.ap.weaken fun k hk => hk.elim
set_option maxRecDepth 100000 in
set_option maxHeartbeats 2000000 in
theorem same_run (h : Both B G R p z w0 w s s.rowsOf (fun _ => False)) (hs : Small s p z 60) (hp : p ≤ 12) (hz : 1 ≤ z ∧ z ≤ 8) :
    Calls Try.prog 21 #[.pointer (some ⟨G, 0, none⟩), .pointer (some ⟨R, 0, none⟩)] w fun e w' => e = .returned (.bool true) ∧ Both B G R p z w0 w' s s.rowsOf (fun _ => False) := by
  have ht := tame_of hs hp hz.2
  have HS := Lib.hid (And.intro hs (And.intro hp (And.intro hz ht)))
  have HB := Lib.hid h
  have hr60 : (s.rows.length : Int) ≤ 60 := by have := hs.rows; omega
  have hp12 : (p : Int) ≤ 12 := by omega
  have HC : ∀ w, Both B G R p z w0 w s s.rowsOf (fun _ => False) → (∃ A c, w.cell? ⟨R, 0, none⟩ = some (.slice A s.rows.length c)) ∧ w.cell? ⟨R, 1, none⟩ = some (.int .i64 p) := by
    rintro w ⟨ρ, Y, a, rfl, -, -, -⟩
    obtain ⟨c0, c1, -, -⟩ := a.cells
    obtain ⟨A, c, hv⟩ := a.form
    rw [hv, rowsOf_length] at c0
    exact ⟨⟨A, c, c0⟩, c1⟩
  have HC := Lib.hid HC
  clear h hs hp hz ht
  go_enter Try.func21, Try.ntmps21
  go_wp2_with fail
  go_loopw [5] (fun vi wr => ∃ i : Int, vi = .int .i64 i ∧ -1 ≤ i ∧ i ≤ s.rows.length + 1 ∧ Hid (Both B G R p z w0 wr s s.rowsOf (fun _ => False))) (fun vi _ => ((s.rows.length : Int) + 1 - intOf vi).toNat)
  case atStart => exact ⟨-1, rfl, by omega, by omega, HB⟩
  case round =>
    obtain ⟨i, rfl, hi0, hi1, hb⟩ := hrel
    obtain ⟨⟨A0, cp0, c0⟩, c1⟩ := HC.out wr hb.out
    by_cases hlt : i ≤ (s.rows.length : Int)
    · have HRW := apart_row hb.out.run HS.out.1.inv i (by have := all_short HS.out.1 HS.out.2.1 HS.out.2.2.1.2 i; omega)
      cases hf : s.find i with
      | none =>
        have hall : s.all 0 i = [] := by unfold PSt.all; rw [hf]
        rw [hall] at HRW
        have HRW := Lib.hid HRW
        go_wp2_with fail
        with_reducible refine Calls.mono HRW.out ?_
        rintro e w4 ⟨v4, rfl, hv4⟩
        obtain ⟨A4, c4, rfl⟩ : ∃ A c, v4 = .slice A 0 c := own_form hv4.own
        have hb4 := hb.out.later hv4.below
        have hlen := apart_len hb4.run i
        unfold lenOfId at hlen
        rw [hf] at hlen
        have HLen := Lib.hid hlen
        have HB4 := Lib.hid hb4
        clear hv4 hb4 hlen
        go_wp2_with fail
        with_reducible refine Calls.mono HLen.out ?_
        rintro e w5 ⟨rfl, rfl⟩
        have hR := bref_right HB4.out HS.out.1 i
        rw [hf] at hR
        have HR := Lib.hid hR
        have hPg := apart_pages2 HB4.out.run HS.out.1.inv i
        rw [hf] at hPg
        have HPg := Lib.hid hPg
        clear hR hPg
        go_wp2_with fail
        with_reducible refine Calls.mono HR.out ?_
        rintro e w5 ⟨rfl, rfl⟩
        go_wp2_with fail
        with_reducible refine Calls.mono HPg.out ?_
        rintro e w6 ⟨v6, rfl, hv6, hb6⟩
        obtain ⟨A6, c6, rfl⟩ : ∃ A c, v6 = .slice A 0 c := hv6.form
        have HB6 := Lib.hid (HB4.out.later hb6)
        clear hv6 hb6
        go_wp2_with fail
        go_roundw
        case rel => exact ⟨i + 1, by go_num, by omega, by omega, HB6⟩
        case measure => simp [intOf]; omega
      | some r =>
        obtain ⟨ps, m0⟩ := r
        obtain ⟨j, rfl, hr, hg⟩ := found hf
        simp only at hg
        have hal := all_length (0 : Int) hr
        have hm96 : (m0 : Int) ≤ 96 := by have := all_short HS.out.1 HS.out.2.1 HS.out.2.2.1.2 (j : Int); omega
        have hjr := row_lt hr
        have hj' : (j : Int) < (s.rows.length : Int) := by omega
        have hj0 : ¬ (j : Int) < 0 := by omega
        have HRW := Lib.hid HRW
        have HF := Lib.hid (And.intro hf (And.intro hr (And.intro hg hal)))
        clear hr hg hal hjr hf
        go_wp2_with fail
        with_reducible refine Calls.mono HRW.out ?_
        rintro e w4 ⟨v4, rfl, hv4⟩
        obtain ⟨A4, c4, rfl⟩ : ∃ A c, v4 = .slice A m0 c := by rw [← HF.out.2.2.2]; exact own_form hv4.own
        have hb4 := hb.out.later hv4.below
        have hlen := apart_len hb4.run (j : Int)
        unfold lenOfId at hlen
        rw [HF.out.1] at hlen
        have HLen := Lib.hid hlen
        have HB4 := Lib.hid hb4
        have hr4 : RdI w4 (.slice A4 m0 c4) (s.all 0 (j : Int)) := RdI.of_own hv4.own
        obtain ⟨ρ, Y, ra, rb, -, -, -⟩ := hb4
        obtain ⟨c0, -, -, -⟩ := ra.cells
        obtain ⟨g, cap, hv, -, -, x0, x1, -, -⟩ := ra.row HF.out.2.2.1
        obtain ⟨AL, cL, hLv⟩ := ra.lForm HF.out.2.2.1
        obtain ⟨AP, cP, hPv⟩ := ra.pForm HF.out.2.2.1
        have hLo := ra.l j _ HF.out.2.2.1
        have hPo := ra.p j _ HF.out.2.2.1
        simp only at hLv hLo hPv hPo
        have hLr : RdI w4 (Y.lv j) (s.all 0 (j : Int)) := RdI.of_own hLo
        have hPr : RdI w4 (Y.pv j) (ps.map fun q : Nat => (q : Int)) := by
          refine RdI.of_own (base := 0) (e := 3) ?_
          rw [List.length_map, List.map_map]
          exact hPo
        rw [hLv] at x0 hLr
        rw [hPv] at x1 hPr
        rw [HF.out.2.2.2] at x0 hLr
        rw [hv, rb, rowsOf_length] at c0
        have hgl : g < w4.heap.size := block_lt_of_cell x0
        have hRl : R < w4.heap.size := block_lt_of_cell c0
        have HI1 := Lib.hid (fun W (hb : Below w4.heap.size w4 W) => ints_same (hr4.below hb) (hLr.below hb) (by rw [HF.out.2.2.2]; omega))
        have hpg := fun W (hb : Below w4.heap.size w4 W) => apart_pages2 (HB4.out.later hb).run HS.out.1.inv (j : Int)
        rw [HF.out.1] at hpg
        simp only [Option.map_some, Option.getD_some] at hpg
        have HPg := Lib.hid hpg
        have HPr := Lib.hid hPr
        have hps : ps.length ≤ 256 := (HS.out.2.2.2.2 _ (List.mem_of_getElem? HF.out.2.2.1)).1
        have HR := bref_right HB4.out HS.out.1 (j : Int)
        rw [HF.out.1] at HR
        have HR := Lib.hid HR
        clear hv4 hlen hr4 ra rb hv hLv hLo hPv hPo hLr hPr hpg
        go_wp2_with fail
        with_reducible refine Calls.mono HLen.out ?_
        rintro e w5 ⟨rfl, rfl⟩
        go_wp2_with fail
        with_reducible refine Calls.mono HR.out ?_
        rintro e w5 ⟨rfl, rfl⟩
        go_wp2_with fail
        go_region_held3 (fun w' => w'.cell? ⟨R, 0, none⟩ = some (.slice (some ⟨g, 0, none⟩) s.rows.length cap) ∧ w'.cell? ⟨g, j * 3, none⟩ = some (.slice AL m0 cL) ∧ w'.cell? ⟨g, j * 3 + 1, none⟩ = some (.slice AP ps.length cP)) (first | exact ⟨c0, x0, x1⟩ | assumption | go_keep)
          (first | (go_at_call 18; with_reducible refine Calls.mono (HI1.out _ (below_undrew (Below.refl _ _))) ?_; rintro e w5 ⟨rfl, m5, rfl⟩)
                 | (go_at_call 19; with_reducible refine Calls.mono (HPg.out _ ?_) ?_; (exact ⟨rfl, rfl, rfl, Nat.le_refl _, fun _ _ => rfl⟩); rintro e w6 ⟨v6, rfl, hv6, hb6⟩; obtain ⟨A6, c6, e6⟩ : ∃ A c, v6 = .slice A ps.length c := (by have h5 := hv6.form; rw [List.length_map] at h5; exact h5); subst e6; have hb46 : Below w4.heap.size w4 w6 := below_undrewN hb6; have c0 := (World.cell?_of_block (a := ⟨R, 0, none⟩) (hb46.block R hRl)).trans c0; have x0 := (World.cell?_of_block (a := ⟨g, j * 3, none⟩) (hb46.block g hgl)).trans x0; have x1 := (World.cell?_of_block (a := ⟨g, j * 3 + 1, none⟩) (hb46.block g hgl)).trans x1; have H6 := Lib.hid (And.intro hv6 hb46); clear hv6 hb6 hb46)
                 | (go_at_call 18; with_reducible refine Calls.mono (ints_same H6.out.1 (HPr.out.below H6.out.2) ?_) ?_; (simp; omega); rintro e w7 ⟨rfl, m7, rfl⟩))
        go_wp2_with fail
        go_roundw
        case rel => exact ⟨(j : Int) + 1, by go_num, by omega, by omega, Lib.hid ((HB4.out.later H6.out.2).later ⟨rfl, rfl, rfl, Nat.le_refl _, fun _ _ => rfl⟩)⟩
        case measure => simp [intOf]; omega
    · clear hi0 hi1
      go_wp2_with fail
      go_loopw [10] (fun vi wr => ∃ i : Int, vi = .int .i64 i ∧ -1 ≤ i ∧ i ≤ (p : Int) + 1 ∧ Hid (Both B G R p z w0 wr s s.rowsOf (fun _ => False))) (fun vi _ => ((p : Int) + 1 - intOf vi).toNat)
      case atStart => exact ⟨-1, rfl, by omega, by omega, hb⟩
      case round =>
        clear c0 c1 hb hlt
        obtain ⟨i, rfl, hi0, hi1, hb⟩ := hrel
        obtain ⟨⟨A0, cp0, c0⟩, c1⟩ := HC.out _ hb.out
        by_cases hlt : i ≤ (p : Int)
        · have hpc : ∃ c : Nat, (Calls Try.prog 20 #[.pointer (some ⟨G, 0, none⟩), .int .i64 i] wr fun e w' => e = .returned (.int .i64 (c : Int)) ∧ wr = w') ∧ refCount s.rowsOf i = c := by
            rcases Int.lt_or_le i 0 with hneg | hpos
            · obtain rfl : i = -1 := by omega
              exact ⟨0, count_neg hb.out.run, refCount_zero HS.out.1.inv (-1) (.inl (by omega))⟩
            · obtain ⟨k, rfl⟩ := Int.eq_ofNat_of_zero_le hpos
              have hc := apart_count hb.out.run k
              rcases Nat.lt_or_ge k s.pages.length with hk | hk
              · have h1 := refCount_of HS.out.1.inv k hk
                rw [← h1] at hc
                exact ⟨_, hc, rfl⟩
              · have h1 : s.cnt k = 0 := by unfold PSt.cnt; rw [List.getElem?_eq_none hk]; rfl
                rw [h1] at hc
                exact ⟨0, hc, refCount_zero HS.out.1.inv (k : Int) (.inr (by omega))⟩
          obtain ⟨c, hpc, hrc⟩ := hpc
          have HP := Lib.hid hpc
          have hR : Calls Try.prog 45 #[.pointer (some ⟨R, 0, none⟩), .int .i64 i] wr fun e w' => e = .returned (.int .i64 (c : Int)) ∧ wr = w' := by
            obtain ⟨ρ, Y, a, rfl, -, -, -⟩ := hb.out
            have := count_R a i HS.out.2.2.2
            rw [hrc] at this
            exact this
          have HR := Lib.hid hR
          clear hpc hrc hR
          go_wp2_with fail
          with_reducible refine Calls.mono HP.out ?_
          rintro e w5 ⟨rfl, rfl⟩
          go_wp2_with fail
          with_reducible refine Calls.mono HR.out ?_
          rintro e w5 ⟨rfl, rfl⟩
          go_wp2_with fail
          go_roundw
          case rel => exact ⟨i + 1, by go_num, by omega, by omega, hb⟩
          case measure => simp [intOf]; omega
        · have HP := Lib.hid (apart_free hb.out.run HS.out.1.inv)
          go_wp2_with fail
          with_reducible refine Calls.mono HP.out ?_
          rintro e w5 ⟨rfl, hb5⟩
          have HB5 := Lib.hid (hb.out.later hb5)
          have hR : Calls Try.prog 46 #[.pointer (some ⟨R, 0, none⟩)] w5 fun e w' => e = .returned (.int .i64 (s.free : Int)) ∧ w5 = w' := by
            obtain ⟨ρ, Y, a, rfl, -, -, -⟩ := HB5.out
            have := free_R a HS.out.2.2.2 (by have := HS.out.2.1; omega)
            rw [refFree_of HS.out.1] at this
            exact this
          have HR := Lib.hid hR
          clear hb5 hR
          go_wp2_with fail
          with_reducible refine Calls.mono HR.out ?_
          rintro e w6 ⟨rfl, rfl⟩
          go_wp2_with fail
          go_ret
          exact ⟨rfl, HB5.out⟩
end
end Go.Proofs.Ytackjeckafoojaa.KvI
