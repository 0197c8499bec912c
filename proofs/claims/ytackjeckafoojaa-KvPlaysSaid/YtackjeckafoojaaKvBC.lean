/- A pool of things of type byte: a row closed. -/
import Derived.Test.YtackjeckafoojaaKvBS
namespace Go.Proofs.Ytackjeckafoojaa.KvB
open Go.RowKit Kv
attribute [local go_sem ↓] Kit.execOp_call_slot
attribute [local go_sem] Kit.callSlot_func
variable {W : World} {ρ : Nat → Option Role} {L : Lay} {s : PSt Int}

theorem share_any (h : PoolAt K enc W ρ L s) (hi : Inv s) (id n : Int) : Calls Try.prog 31 #[.pointer (some ⟨L.g, 0, none⟩), .int .i64 id, .int .i64 n] W fun e w' =>
    e = .returned (.tuple #[.int .i64 (s.share id n).2.1, .int .i64 (s.share id n).2.2]) ∧ Step K enc W ρ L (s.share id n).1 w' := by
  unfold PSt.share
  cases hf : s.find id with
  | none => exact (share_none h n hf).mono fun e w' ⟨h1, h2⟩ => ⟨h1, by rw [← h2]; exact Step.same h⟩
  | some r =>
    obtain ⟨ps, n0⟩ := r
    simp only
    by_cases hn : n < 0 ∨ (n0 : Int) < n
    · rw [if_pos hn]
      exact (share_out h n hf hn).mono fun e w' ⟨h1, h2⟩ => ⟨h1, by rw [← h2]; exact Step.same h⟩
    · rw [if_neg hn]
      obtain ⟨k, rfl⟩ : ∃ k : Nat, n = (k : Int) := ⟨n.toNat, by omega⟩
      simp only [Int.toNat_natCast]
      have hr := (find_row hf).2
      have hk : k ≤ n0 := by omega
      have hb := hi.n_bound hr
      have hpl := hi.ps_len hr
      have hcnt : ∀ i, 0 ≤ s.cnt i ∧ s.cnt i ≤ 100000 := fun i => ⟨(hi.cnt_bound i).1, by have := (hi.cnt_bound i).2; omega⟩
      have hmp : (k + s.size - 1) / s.size ≤ ps.length := by
        rw [hi.len _ _ _ hr]
        exact Nat.div_le_div_right (by omega)
      have hown := (h.row _ _ _ hr).2
      rcases hown.2 with ⟨e, h0⟩ | ⟨g, cap, cur, e, hx⟩
      · have hp0 : ps = [] := List.eq_nil_of_length_eq_zero h0
        refine share_nil h k hf hk _ rfl hmp hb.2.2 hi.sz (hi.lt _ _ _ hr) (by omega) hcnt hi.np.2 hi.many e hp0 ?_
        rw [hp0] at hmp
        simpa using hmp
      · refine share_in h k hf hk _ rfl hmp hb.2.2 hi.sz (hi.lt _ _ _ hr) (by omega) hcnt hi.np.2 hi.many e ?_
        omega

theorem close_none (h : PoolAt K enc W ρ L s) {id : Int} (hf : s.find id = none) : Calls Try.prog 32 #[.pointer (some ⟨L.g, 0, none⟩), .int .i64 id] W fun e w' => e = .returned (.int .i64 14) ∧ W = w' := by
  have hc := find_any h id
  rw [hf] at hc
  simp only [Option.isSome_none, Bool.false_eq_true, if_false] at hc
  have HC := Lib.hid hc
  clear hc h hf
  go_enter Try.func32, Try.ntmps32
  go_wp2_with fail
  with_reducible refine Calls.mono HC.out ?_
  rintro e w1 ⟨rfl, rfl⟩
  go_wp2_with fail
  go_ret
  exact ⟨rfl, rfl⟩

set_option maxRecDepth 100000 in
set_option maxHeartbeats 2000000 in
theorem close_some (h : PoolAt K enc W ρ L s) {id : Nat} {ps : List Nat} {n : Nat} (hf : s.row id = some (ps, n)) (hps : ∀ p ∈ ps, p < s.pages.length) (hpl : ps.length ≤ 1000) (hcnt : ∀ i, 0 ≤ s.cnt i ∧ s.cnt i ≤ 100000) (hnp : s.pages.length ≤ 256) :
    Calls Try.prog 32 #[.pointer (some ⟨L.g, 0, none⟩), .int .i64 (id : Int)] W fun e w' => e = .returned (.int .i64 0) ∧ Step K enc W ρ L ((decAll s ps).setRow id none) w' := by
  have hff : s.find (id : Int) = some (ps, n) := by unfold PSt.find; rw [if_pos (by omega)]; exact hf
  have hc := find_any h (id : Int)
  rw [hff] at hc
  simp only [Option.isSome_some, if_true, Int.toNat_natCast] at hc
  obtain ⟨r0, r1⟩ := h.rowCell hf
  have hown := (h.row _ _ _ hf).2
  obtain ⟨A, cp, hpv⟩ := own_form hown
  rw [hpv] at r0
  have HC := Lib.hid (And.intro hc (And.intro h (And.intro hown hpv)))
  have HP := Lib.hid (And.intro hps hcnt)
  have HF := Lib.hid hf
  clear hc h hf hff r1 hown hpv hps hcnt
  go_enter Try.func32, Try.ntmps32
  go_wp2_with fail
  with_reducible refine Calls.mono HC.out.1 ?_
  rintro e w1 ⟨rfl, rfl⟩
  go_wp2_with fail
  go_loopw [23] (fun i wr => ∃ k : Nat, k ≤ ps.length ∧ i = .int .i64 k ∧ Hid (PoolAt K enc wr ρ L (decAll s (ps.take k))) ∧ Hid (Fr W ρ wr ρ))
    (fun i _ => ps.length - (intOf i).toNat)
  case atStart => exact ⟨0, Nat.zero_le _, rfl, Lib.hid (by simpa [decAll] using HC.out.2.1), Lib.hid (Fr.refl _ _)⟩
  case round =>
    obtain ⟨k, hk, rfl, HK, HFr⟩ := hrel
    clear r0
    by_cases hlt : k < ps.length
    · have hrw := (decAll_len s (ps.take k)).2.2
      have hr' : (decAll s (ps.take k)).row id = some (ps, n) := by unfold PSt.row; rw [hrw]; exact HF.out
      have hown' := (HK.out.row _ _ _ hr').2
      rw [HC.out.2.2.2] at hown'
      obtain ⟨g', cap, hsl, hg', hcell⟩ := own_read hown' (by omega)
      injection hsl with hA hL hC
      subst hA hC
      obtain ⟨p, hp⟩ : ∃ p, p = ps[k] := ⟨_, rfl⟩
      have x0 : wr.cell? ⟨g', k, none⟩ = some (.int .i64 (p : Int)) := hcell k _ (by rw [hp]; simp [ints, hlt])
      have hpl2 : p < s.pages.length := by rw [hp]; exact HP.out.1 _ (List.getElem_mem hlt)
      have hlen := (decAll_len s (ps.take k)).1
      obtain ⟨c0, c1, c2, c3⟩ := HK.out.cells
      obtain ⟨p0, p1⟩ := HK.out.pageCell p (by rw [hlen]; exact hpl2)
      have pf := HK.out.pageFrozen (p * 2 + 1)
      have hcb := decAll_cnt (ps.take k) HP.out.2 p
      have htl : (ps.take k).length ≤ 1000 := by rw [List.length_take]; omega
      rw [hlen] at c0
      obtain ⟨q, hq⟩ : ∃ q, q = (decAll s (ps.take k)).cnt p := ⟨_, rfl⟩
      rw [← hq] at p1 hcb
      have hq0 : -1000 ≤ q := by omega
      have hq1 : q ≤ 200000 := by omega
      have hpi : (p : Int) < (s.pages.length : Int) := by omega
      have hpi0 : (0 : Int) ≤ (p : Int) := by omega
      have HN : Hid (PoolAt K enc (wr.setCell ⟨L.pb, p * 2 + 1, none⟩ (.int .i64 (q - 1))) ρ L (decAll s (ps.take (k + 1)))) := by
        show PoolAt K enc _ ρ L _
        have := HK.out.count (i := p) (by rw [hlen]; exact hpl2) (q - 1)
        rw [List.take_succ_eq_append_getElem hlt, decAll_snoc, ← hp, ← hq]
        exact this
      have HFN : Hid (Fr W ρ (wr.setCell ⟨L.pb, p * 2 + 1, none⟩ (.int .i64 (q - 1))) ρ) := HFr.out.trans (Fr.setCell _ _ (by rw [HK.out.rpb]; simp))
      clear hcb htl hlen hq hp hcell hown' hr' hrw HK HFr p0
      go_wp2_with fail
      go_roundw
      case rel => exact ⟨k + 1, by omega, by go_num, HN, HFN⟩
      case measure => simp [intOf]; omega
    · obtain rfl : k = ps.length := by omega
      rw [List.take_length] at HK
      obtain ⟨c0, c1, c2, c3⟩ := HK.out.cells
      have hrl := (decAll_len s ps).2.2
      have hr' : (decAll s ps).row id = some (ps, n) := by unfold PSt.row; rw [hrl]; exact HF.out
      have hfr := findF_rows (openIds (decAll s ps).rows) L.rb (id : Int) 0
      rw [if_pos ⟨by omega, by rw [Int.toNat_natCast, openIds_mem]; exact ⟨_, hr'⟩⟩] at hfr
      obtain ⟨⟨j, v⟩, hj, -⟩ := Option.map_eq_some_iff.1 hfr
      obtain ⟨w3, hde, hm3, hg3, hs3⟩ := IMap.run_delete (P := Try.prog) wr 68 3 74 0 Try.underlying68 Try.underlying3 HK.out.map (id : Int) hj
      have her := findF_erase _ (openIds_nodup _) _ _ _ _ _ hj
      rw [Nat.sub_zero] at her
      rw [her, ← openIds_close (s := decAll s ps)] at hm3
      have HM := Lib.hid (And.intro hm3 (And.intro hg3 hs3))
      clear hm3 hg3 hs3 her hj hfr hr' hrl c0 c1 c3
      go_wp2_with fail
      go_ret
      refine ⟨rfl, ρ, L, HK.out.dropRow HM.out.1 HM.out.2.1, rfl, HFr.out.trans ⟨HM.out.2.1.os, HM.out.2.1.tape, HM.out.2.1.output, HM.out.2.1.size, fun c hc hr => ⟨HM.out.2.1.block c hc ?_, hr⟩⟩⟩
      intro e
      cases e
      rw [HC.out.2.1.rmb] at hr
      simp at hr
theorem close_any (h : PoolAt K enc W ρ L s) (hi : Inv s) (id : Int) : Calls Try.prog 32 #[.pointer (some ⟨L.g, 0, none⟩), .int .i64 id] W fun e w' => e = .returned (.int .i64 (s.close id).2) ∧ Step K enc W ρ L (s.close id).1 w' := by
  unfold PSt.close
  cases hf : s.find id with
  | none => exact (close_none h hf).mono fun e w' ⟨h1, h2⟩ => ⟨h1, by rw [← h2]; exact Step.same h⟩
  | some r =>
    obtain ⟨ps, n⟩ := r
    obtain ⟨h0, hr⟩ := find_row hf
    obtain ⟨k, rfl⟩ : ∃ k : Nat, id = (k : Int) := ⟨id.toNat, by omega⟩
    simp only [Int.toNat_natCast] at hr ⊢
    exact close_some h hr (hi.lt _ _ _ hr) (by have := hi.ps_len hr; omega) (fun i => ⟨(hi.cnt_bound i).1, by have := (hi.cnt_bound i).2; omega⟩) hi.np.2
end Go.Proofs.Ytackjeckafoojaa.KvB
