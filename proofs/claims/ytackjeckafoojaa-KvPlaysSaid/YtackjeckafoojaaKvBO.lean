/- A pool of things of type byte: a row opened. -/
import Derived.Test.YtackjeckafoojaaKvBF
namespace Go.Proofs.Ytackjeckafoojaa.KvB
open Go.RowKit Kv
attribute [local go_sem ↓] Kit.execOp_call_slot
attribute [local go_sem] Kit.callSlot_func
variable {W : World} {ρ : Nat → Option Role} {L : Lay} {s : PSt Int}

/-- What 'open' leaves: b: the row's block, v: its pages. -/
structure Opened (W : World) (ρ : Nat → Option Role) (L : Lay) (s : PSt Int) (b : Nat) (v : Value) (ps : List Nat) (n : Nat) (W' : World) (ρ' : Nat → Option Role) (L' : Lay) : Prop where
  pool : PoolAt K enc W' ρ' L' { incAll s ps with rows := s.rows ++ [some (ps, n)] }
  g : L'.g = L.g
  rb : ∀ j, j ≠ s.rows.length → L'.rb j = L.rb j
  pv : ∀ j, j ≠ s.rows.length → L'.pv j = L.pv j
  os : W'.os = W.os
  tape : W'.tape = W.tape
  output : W'.output = W.output
  size : W.heap.size ≤ W'.heap.size
  block : ∀ k, k < W.heap.size → ρ k = none → k ≠ b → v.ownBlock ≠ some k → W'.heap[k]? = W.heap[k]? ∧ ρ' k = none
def OpenedPost (W : World) (ρ : Nat → Option Role) (L : Lay) (s : PSt Int) (b : Nat) (v : Value) (ps : List Nat) (n : Nat) (e : Ending) (W' : World) : Prop :=
  e = .returned (.tuple #[.int .i64 (s.rows.length : Int), .int .i64 0]) ∧ ∃ ρ' L', Opened W ρ L s b v ps n W' ρ' L'

theorem open_full (h : PoolAt K enc W ρ L s) (b : Nat) (hm : s.rows.length = 1024) : Calls Try.prog 50 #[.pointer (some ⟨L.g, 0, none⟩), .pointer (some ⟨b, 0, none⟩)] W fun e w' => e = .returned (.tuple #[.int .i64 0, .int .i64 16]) ∧ W = w' := by
  obtain ⟨c0, c1, c2, c3⟩ := h.cells
  rw [hm] at c3
  clear h hm
  go_enter Try.func50, Try.ntmps50
  go_wp2_with fail
  go_ret2
  exact ⟨rfl, rfl⟩

set_option maxRecDepth 100000 in
set_option maxHeartbeats 2000000 in
theorem open_some (h : PoolAt K enc W ρ L s) (b : Nat) (v : Value) (ps : List Nat) (n : Nat) (hrow : W.heap[b]? = some (.cells #[v, .int .i64 (n : Int)] 78 (0, 0))) (hown : W.ownsRow 0 3 1 v ps.length (ints ps))
    (hb : ρ b = none) (hv : ∀ g, v.ownBlock = some g → ρ g = none ∧ g ≠ b) (hps : ∀ p ∈ ps, p < s.pages.length) (hpl : ps.length ≤ 1000) (hcnt : ∀ i, 0 ≤ s.cnt i ∧ s.cnt i ≤ 100000) (hnp : s.pages.length ≤ 256) (hm : s.rows.length < 1024) :
    Calls Try.prog 50 #[.pointer (some ⟨L.g, 0, none⟩), .pointer (some ⟨b, 0, none⟩)] W (OpenedPost W ρ L s b v ps n) := by
  obtain ⟨c0, c1, c2, c3⟩ := h.cells
  have r0 : W.cell? ⟨b, 0, none⟩ = some v := by rw [cell_of_row W b 0 _ _ _ hrow]; rfl
  obtain ⟨A, cp, rfl⟩ := own_form hown
  have hmb : ((s.rows.length : Int) == 1024) = false := by simp; omega
  have H := Lib.hid (And.intro h (And.intro hrow (And.intro hown (And.intro hb hv))))
  have HP := Lib.hid (And.intro hps hcnt)
  clear h hrow hown hb hv hps hcnt
  go_enter Try.func50, Try.ntmps50
  go_wp2_with fail
  go_loopw [18] (fun i wr => ∃ k : Nat, k ≤ ps.length ∧ i = .int .i64 k ∧ Hid (PoolAt K enc wr ρ L (incAll s (ps.take k))) ∧ Hid (Fr W ρ wr ρ))
    (fun i _ => ps.length - (intOf i).toNat)
  case atStart => exact ⟨0, Nat.zero_le _, rfl, Lib.hid (by simpa [incAll] using H.out.1), Lib.hid (Fr.refl _ _)⟩
  case round =>
    obtain ⟨k, hk, rfl, HK, HF⟩ := hrel
    clear c0 c1 c2 c3 r0
    by_cases hlt : k < ps.length
    · obtain ⟨g', cap, hsl, hg', hcell⟩ := own_read H.out.2.2.1 (by omega)
      injection hsl with hA hL hC
      subst hA hC
      have hgn := H.out.2.2.2.2 g' rfl
      obtain ⟨p, hp⟩ : ∃ p, p = ps[k] := ⟨_, rfl⟩
      have x0 : wr.cell? ⟨g', k, none⟩ = some (.int .i64 (p : Int)) := by
        rw [World.cell?_of_block (a := ⟨g', k, none⟩) (HF.out.block g' hg' hgn.1).1]
        exact hcell k _ (by rw [hp]; simp [ints, hlt])
      have hpl2 : p < s.pages.length := by rw [hp]; exact HP.out.1 _ (List.getElem_mem hlt)
      have hlen := (incAll_len s (ps.take k)).1
      obtain ⟨c0, c1, c2, c3⟩ := HK.out.cells
      obtain ⟨p0, p1⟩ := HK.out.pageCell p (by rw [hlen]; exact hpl2)
      have pf := HK.out.pageFrozen (p * 2 + 1)
      have hcb := incAll_cnt (ps.take k) HP.out.2 p
      have htl : (ps.take k).length ≤ 1000 := by rw [List.length_take]; omega
      rw [hlen] at c0
      obtain ⟨q, hq⟩ : ∃ q, q = (incAll s (ps.take k)).cnt p := ⟨_, rfl⟩
      rw [← hq] at p1 hcb
      have hq0 : 0 ≤ q := hcb.1
      have hq1 : q ≤ 200000 := by omega
      have hpi : (p : Int) < (s.pages.length : Int) := by omega
      have hpi0 : (0 : Int) ≤ (p : Int) := by omega
      have HN : Hid (PoolAt K enc (wr.setCell ⟨L.pb, p * 2 + 1, none⟩ (.int .i64 (q + 1))) ρ L (incAll s (ps.take (k + 1)))) := by
        show PoolAt K enc _ ρ L _
        have := HK.out.count (i := p) (by rw [hlen]; exact hpl2) (q + 1)
        rw [List.take_succ_eq_append_getElem hlt, incAll_snoc, ← hp, ← hq]
        exact this
      have HFN : Hid (Fr W ρ (wr.setCell ⟨L.pb, p * 2 + 1, none⟩ (.int .i64 (q + 1))) ρ) := HF.out.trans (Fr.setCell _ _ (by rw [HK.out.rpb]; simp))
      clear hcb htl hlen hq hp hcell hgn HK HF p0
      go_wp2_with fail
      go_roundw
      case rel => exact ⟨k + 1, by omega, by go_num, HN, HFN⟩
      case measure => simp [intOf]; omega
    · obtain rfl : k = ps.length := by omega
      rw [List.take_length] at HK
      obtain ⟨c0, c1, c2, c3⟩ := HK.out.cells
      have hrl := (incAll_len s ps).2.2
      rw [hrl] at c3
      obtain ⟨w3, hmu, hm3, hg3, hs3⟩ := IMap.run_update_new (P := Try.prog) wr.drew 68 3 74 Try.underlying68 Try.underlying3 HK.out.map (s.rows.length : Int) (.pointer (some ⟨b, 0, none⟩)) (by
        intro q hq
        obtain ⟨j, hj, rfl⟩ := List.mem_map.1 hq
        have := openIds_lt hj
        rw [hrl] at this
        simp only
        omega)
      have hgm : L.g ≠ L.mb := role_ne HK.out.rg HK.out.rmb (by simp)
      have k3 : ∀ j, w3.cell? ⟨L.g, j, none⟩ = wr.cell? ⟨L.g, j, none⟩ := fun j => World.cell?_of_block (a := ⟨L.g, j, none⟩) (hg3.block L.g (lt_of_some HK.out.pool) (by simpa using hgm))
      have f3 : w3.frozen? ⟨L.g, 3, none⟩ = false := by rw [World.frozen?_of_block (a := ⟨L.g, 3, none⟩) (hg3.block L.g (lt_of_some HK.out.pool) (by simpa using hgm))]; exact HK.out.frozen 3
      have d2 := (k3 2).trans c2
      have d3 := (k3 3).trans c3
      have HM := Lib.hid (And.intro hm3 (And.intro hg3 hs3))
      clear k3 hm3 hg3 hs3 hrl c0 c1
      go_wp2_with fail
      go_region_held3 (fun w' => w'.cell? ⟨L.g, 2, none⟩ = some (.map (some L.mb)) ∧ w'.cell? ⟨L.g, 3, none⟩ = some (.int .i64 (s.rows.length : Int))) (first | (exact ⟨c2, c3⟩) | (exact ⟨d2, d3⟩)) (fail)
      go_wp2_with fail
      go_ret2
      have HR := HK.out
      have hbb : b < W.heap.size := lt_of_some H.out.2.1
      have hrow' : wr.heap[b]? = some (.cells #[.slice A ps.length cp, .int .i64 (n : Int)] 78 (0, 0)) := (HF.out.block b hbb H.out.2.2.2.1).1.trans H.out.2.1
      have hown' : wr.ownsRow 0 3 1 (.slice A ps.length cp) ps.length (ints ps) := own_same H.out.2.2.1 fun g hg => (HF.out.block g (own_lt' H.out.2.2.1 hg) (H.out.2.2.2.2 g hg).1).1
      have hrl := (incAll_len s ps).2.2
      have hgr : wr.grownBy w3 (some L.mb) := ⟨HM.out.2.1.os, HM.out.2.1.tape, HM.out.2.1.output, HM.out.2.1.size, HM.out.2.1.block⟩
      have hN := HR.newRow (W1 := w3) b (.slice A ps.length cp) ps n hrow' hown' H.out.2.2.2.1 H.out.2.2.2.2 (by rw [hrl]; rw [hrl] at HM; exact HM.out.1) hgr
      rw [hrl] at hN
      refine ⟨rfl, _, _, hN, rfl, fun j hj => by simp [hj], fun j hj => by simp [hj], HM.out.2.1.os.trans HF.out.os, HM.out.2.1.tape.trans HF.out.tape, HM.out.2.1.output.trans HF.out.output, ?_, ?_⟩
      · have := HF.out.size; have := HM.out.2.2; simp [World.setCell] at *; omega
      · intro k hk hr hkb hkv
        have hkG : k ≠ L.g := by rintro rfl; rw [H.out.1.rg] at hr; simp at hr
        have hkM : k ≠ L.mb := by rintro rfl; rw [H.out.1.rmb] at hr; simp at hr
        refine ⟨(Below.heap_setCell _ _ _ _ hkG).trans ((HM.out.2.1.block k (Nat.lt_of_lt_of_le hk HF.out.size) (by simpa using hkM)).trans (HF.out.block k hk hr).1), ?_⟩
        rw [upR_other (fun g hg e => hkv (by rw [e]; exact hg)), if_neg hkb]
        exact hr
end Go.Proofs.Ytackjeckafoojaa.KvB
