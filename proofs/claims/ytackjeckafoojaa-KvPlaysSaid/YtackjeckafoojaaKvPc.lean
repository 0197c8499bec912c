/- The reference's pool: Append. -/
import Derived.Test.YtackjeckafoojaaKvPb
import Derived.Deep.RegionHeldLaw
import Derived.Deep.RegionLaw
import Derived.Deep.AppendLies
set_option linter.unusedVariables false
set_option linter.unusedSimpArgs false
namespace Go.Proofs.Ytackjeckafoojaa.Kv
open Go.RowKit
attribute [local go_sem ↓] Kit.execOp_call_slot
attribute [local go_sem] Kit.callSlot_func
theorem below_drew {n : Nat} {w w' : World} (h : Below n w w') : Below n w w'.drew := ⟨h.os, h.tape, h.output, h.size, h.block⟩
theorem infoI : (Try.prog.info? 3).map (fun i => (i.zero, i.size, i.bytes)) = some (some (.int .i64 0), 1, 8) := by kernel_rfl
section
variable {W : World} {ρ : Nat → Option RRole} {Y : RLay} {p z : Nat} {rows : List RRow}
theorem RStep.of2 {rows2 : List RRow} {W1 W2 : World} {ρ1 : Nat → Option RRole} {Y1 : RLay} (c : RFr W ρ W1 ρ1) (hY : Y1.r = Y.r) (h : RStep W1 ρ1 Y1 p z rows2 W2) : RStep W ρ Y p z rows2 W2 := by
  obtain ⟨ρ2, Y2, a2, b2, c2⟩ := h
  exact ⟨ρ2, Y2, a2, b2.trans hY, c2.os.trans c.os, c2.tape.trans c.tape, c2.output.trans c.output, Nat.le_trans c.size c2.size, fun k hk hr => by
    obtain ⟨e1, e2⟩ := c.block k hk hr
    obtain ⟨e3, e4⟩ := c2.block k (Nat.lt_of_lt_of_le hk c.size) e2
    exact ⟨e3.trans e1, e4⟩⟩
/-- The row's pages are other ones. -/
theorem RefAt.newP (h : RefAt W ρ Y p z rows) {i : Nat} {r : RRow} (hr : rows[i]? = some r) {g cap : Nat} (hv : Y.vr = .slice (some ⟨g, 0, none⟩) rows.length cap) {w9 : World} (hb : Below W.heap.size W w9) {v' : Value} {qs : List Nat} (hown : w9.ownsRow W.heap.size 3 1 v' qs.length (ints qs)) :
    RStep W ρ Y p z (rows.set i ⟨r.l, qs, r.o⟩) (w9.setCell ⟨g, i * 3 + 1, none⟩ v') := by
  have hg : ρ g = some .rows := h.rrows g (by rw [hv]; rfl)
  have hgl : g < W.heap.size := h.lt g (by rw [hg]; simp)
  have hne : ∀ b, v'.ownBlock = some b → W.heap.size ≤ b := fun b hb' => (hown.lt b hb').1
  have hS : ∀ b, b ≠ g → (w9.setCell ⟨g, i * 3 + 1, none⟩ v').heap[b]? = w9.heap[b]? := fun b hb' => Below.heap_setCell _ _ _ _ hb'
  refine h.remake hr (L := Y.lv i) (P := v') hb.os hb.tape hb.output (by have := hb.size; simpa using this) (fun b hb' hr' _ => (hS b (by rintro rfl; exact hr' hg)).trans (hb.block b hb')) ?_ (own_same (h.l i r hr) fun b hb' => ?_) (fun b hb' => .inl (h.rl i r b hr hb')) ?_ (fun b hb' => .inr (hne b hb')) ?_
  · intro xs hx y0 y1 y2
    rw [hv] at hx ⊢
    have l1 := (List.getElem?_eq_some_iff.1 y1).1
    refine ⟨_, own_set (own_same hx (W' := w9) fun b hb' => hb.block b (own_lt' hx hb')) (i * 3 + 1) v', ?_, ?_, ?_, ?_⟩
    · rw [List.getElem?_set_ne (by omega)]; exact y0
    · simp [List.getElem?_set, l1]
    · rw [List.getElem?_set_ne (by omega)]; exact y2
    · intro j hj
      rw [List.getElem?_set_ne (by omega)]
  · have h1 := h.rl i r b hr hb'
    have hbg : b ≠ g := by rintro rfl; rw [hg] at h1; cases h1
    exact (hS b hbg).trans (hb.block b (own_lt' (h.l i r hr) hb'))
  · have h5 := own_same hown (W' := w9.setCell ⟨g, i * 3 + 1, none⟩ v') fun b hb' => hS b (by have := hne b hb'; omega)
    exact ⟨h5.1, h5.2.imp id fun ⟨g, cap, cur, e, h6, r⟩ => ⟨g, cap, cur, e, by omega, r⟩⟩
  · intro b hb' e
    have := own_lt' (h.l i r hr) hb'
    have := hne b e
    omega
/-- The row has one thing more. -/
theorem RefAt.growL (h : RefAt W ρ Y p z rows) {i : Nat} {r : RRow} (hr : rows[i]? = some r) {g cap : Nat} (hv : Y.vr = .slice (some ⟨g, 0, none⟩) rows.length cap) {w0 w9 : World} (hb : Below W.heap.size W w0) (hg9 : w0.grownBy w9 (Y.lv i).ownBlock) {v' : Value} {ls : List Int} (hown : w9.ownsRow 0 3 1 v' ls.length (ls.map encI))
    (hat : (Y.lv i).ownBlock = v'.ownBlock ∨ v'.ownBlock = some w0.heap.size) :
    RStep W ρ Y p z (rows.set i ⟨ls, r.ps, r.o⟩) (w9.setCell ⟨g, i * 3, none⟩ v') := by
  have hg : ρ g = some .rows := h.rrows g (by rw [hv]; rfl)
  have hgl : g < W.heap.size := h.lt g (by rw [hg]; simp)
  have hS : ∀ b, b ≠ g → (w9.setCell ⟨g, i * 3, none⟩ v').heap[b]? = w9.heap[b]? := fun b hb' => Below.heap_setCell _ _ _ _ hb'
  have hF : ∀ b, b < W.heap.size → (Y.lv i).ownBlock ≠ some b → w9.heap[b]? = W.heap[b]? := fun b hb' hne => (hg9.block b (Nat.lt_of_lt_of_le hb' hb.size) (fun e => hne e.symm)).trans (hb.block b hb')
  have hvb : ∀ b, v'.ownBlock = some b → ρ b = some (.l i) ∨ W.heap.size ≤ b := fun b hb' => by
    rcases hat with e | e
    · exact .inl (h.rl i r b hr (e.trans hb'))
    · rw [e] at hb'; injection hb' with hb'; have := hb.size; exact .inr (by omega)
  have hvg : ∀ b, v'.ownBlock = some b → b ≠ g := fun b hb' => by
    rintro rfl
    rcases hvb b hb' with e | e
    · rw [hg] at e; cases e
    · omega
  refine h.remake hr (L := v') (P := Y.pv i) (hg9.os.trans hb.os) (hg9.tape.trans hb.tape) (hg9.output.trans hb.output) (by have := hb.size; have := hg9.size; simp; omega) (fun b hb' hr' hl' => (hS b (by rintro rfl; exact hr' hg)).trans (hF b hb' (fun e => hl' (h.rl i r b hr e)))) ?_ ?_ hvb (own_same (h.p i r hr) fun b hb' => ?_) (fun b hb' => .inl (h.rp i r b hr hb')) ?_
  · intro xs hx y0 y1 y2
    rw [hv] at hx ⊢
    have l1 := (List.getElem?_eq_some_iff.1 y0).1
    refine ⟨_, own_set (own_same hx (W' := w9) fun b hb' => hF b (own_lt' hx hb') (fun e => by
      have h1 := h.rl i r b hr e
      have h2 := h.rrows b (by rw [hv]; exact hb')
      rw [h1] at h2; cases h2)) (i * 3) v', ?_, ?_, ?_, ?_⟩
    · simp [List.getElem?_set, l1]
    · rw [List.getElem?_set_ne (by omega)]; exact y1
    · rw [List.getElem?_set_ne (by omega)]; exact y2
    · intro j hj
      rw [List.getElem?_set_ne (by omega)]
  · exact own_same hown fun b hb' => hS b (hvg b hb')
  · have h1 := h.rp i r b hr hb'
    have hbg : b ≠ g := by rintro rfl; rw [hg] at h1; cases h1
    exact (hS b hbg).trans (hF b (own_lt' (h.p i r hr) hb') (fun e => by have h2 := h.rl i r b hr e; rw [h1] at h2; cases h2))
  · intro b hb' e
    have h1 := h.rp i r b hr e
    rcases hvb b hb' with e2 | e2
    · rw [h1] at e2; cases e2
    · have := own_lt' (h.p i r hr) e; omega
set_option maxRecDepth 100000 in
set_option maxHeartbeats 2000000 in
theorem app_same_R (h : RefAt W ρ Y p z rows) (ht : Tame rows) (hp : p ≤ 256) (hz : 1 ≤ z ∧ z ≤ 64) {i : Nat} {l : List Int} {ps : List Nat} (hr : rows[i]? = some ⟨l, ps, true⟩) (x : Int) (hm : l.length % z ≠ 0) {k : Nat} (hk : ps.length = k + 1) (hcn : refCount rows (ps.getD k 0 : Int) ≤ 1) :
    Calls Try.prog 35 #[.pointer (some ⟨Y.r, 0, none⟩), .int .i64 (i : Int), .int .i64 x] W fun e w' => e = .returned (.int .i64 0) ∧ RStep W ρ Y p z (rows.set i ⟨l ++ [x], ps, true⟩) w' := by
  have hc := right_R h (i : Int) ht.1
  rw [show refRight rows (i : Int) = true by unfold refRight; rw [if_pos (by omega), Int.toNat_natCast, hr]; rfl] at hc
  have HC := Lib.hid hc
  have HFi := Lib.hid (first_R h ht hp)
  obtain ⟨i0, hi0, hz0, hz1, hz2⟩ := info_parts infoI
  have HI := Lib.hid (And.intro hi0 (And.intro hz0 (And.intro hz1 hz2)))
  obtain ⟨c0, c1, c2, f0⟩ := h.cells
  obtain ⟨g, cap, hv, hgY, hg, x0, x1, x2, fr⟩ := h.row hr
  rw [hv] at c0
  have hi := (List.getElem?_eq_some_iff.1 hr).1
  have hn' : (rows.length : Int) ≤ 100 := by have := ht.1; omega
  have hi' : (i : Int) < (rows.length : Int) := by omega
  have h1 : ¬ (i : Int) < 0 := by omega
  obtain ⟨hps, hls⟩ := ht.2 _ (List.mem_of_getElem? hr)
  have hps' : (ps.length : Int) ≤ 256 := by simp at hps; omega
  have hls' : (l.length : Int) ≤ 1000 := by simp at hls; omega
  clear hps hls
  obtain ⟨AL, cL, hLv⟩ := h.lForm hr
  obtain ⟨AP, cP, hPv⟩ := h.pForm hr
  simp only at hLv hPv
  rw [hLv] at x0
  rw [hPv] at x1
  have q0 : ¬ z = 0 := by omega
  have q1 : ¬ (z : Int) = 0 := by omega
  obtain ⟨a0, ha0⟩ : ∃ a0, a0 = l.length % z := ⟨_, rfl⟩
  have q2 : Int.tmod (l.length : Int) (z : Int) = (a0 : Int) := by rw [ha0]; rfl
  have q3 : (a0 : Int) ≤ 1000 := by have := Nat.mod_le l.length z; omega
  have fr0 := fr (i * 3)
  have fr1 := fr (i * 3 + 1)
  have hcr := count_R h (ps.getD k 0 : Int) ht
  obtain ⟨cn, hcn0⟩ : ∃ cn, cn = refCount rows (ps.getD k 0 : Int) := ⟨_, rfl⟩
  rw [← hcn0] at hcn hcr
  have hcn' : ¬ 1 < (cn : Int) := by omega
  have HCn := Lib.hid hcr
  have q4 : ¬ (a0 : Int) = 0 := by omega
  have hpo := h.p i _ hr
  rw [hPv] at hpo
  obtain ⟨gp, cp', ep, -, hcells⟩ := own_read hpo (by simp; omega)
  injection ep with ep1 _ ep3
  subst ep1
  subst ep3
  obtain ⟨pl, hpl⟩ : ∃ pl, pl = ps.getD k 0 := ⟨_, rfl⟩
  have y0 := hcells k (.int .i64 (pl : Int)) (by rw [hpl, List.getD_eq_getElem?_getD, List.getElem?_eq_getElem (show k < ps.length by omega)]; simp [ints, List.getElem?_eq_getElem (show k < ps.length by omega)])
  rw [← hpl] at HCn
  simp only [hk] at x1 hps'
  clear hcells hpo hcr hcn0 hpl
  have HX := Lib.hid (And.intro h (And.intro hr (And.intro hv (And.intro hgY (And.intro hg (And.intro hLv (And.intro hPv ha0)))))))
  clear h hr hv hg fr hc hi hi0 hz0 hz1 hz2 hLv hPv ha0
  go_enter Try.func35, Try.ntmps35
  go_wp2_with fail
  with_reducible refine Calls.mono HC.out ?_
  rintro e w1 ⟨rfl, rfl⟩
  go_wp2_with fail
  with_reducible refine Calls.mono HCn.out ?_
  rintro e w1 ⟨rfl, rfl⟩
  go_wp2_with fail
  have RA := HX.out.1
  have hr2 := HX.out.2.1
  have hv2 := HX.out.2.2.1
  have hgY2 := HX.out.2.2.2.1
  have hL2 := HX.out.2.2.2.2.2.1
  have hYr2 : Y.r = Y.r := rfl
  have HLo : Hid (W.ownsRow 0 3 1 (.slice AL l.length cL) l.length (l.map encI)) := by have := RA.l i _ hr2; rw [hL2] at this; exact this
  have hnY : some Y.r ≠ (Value.slice AL l.length cL).ownBlock := by intro e; have h5 := RA.rl i _ Y.r hr2 (by rw [hL2]; exact e.symm); rw [← hYr2, RA.rbox] at h5; cases h5
  have hnG : some g ≠ (Value.slice AL l.length cL).ownBlock := by intro e; have h5 := RA.rl i _ g hr2 (by rw [hL2]; exact e.symm); rw [RA.rrows g (by rw [hv2]; rfl)] at h5; cases h5
  have hYlt : Y.r < W.heap.size := by rw [← hYr2]; exact RA.lt _ (by rw [RA.rbox]; simp)
  have hGlt : g < W.heap.size := RA.lt _ (by rw [RA.rrows g (by rw [hv2]; rfl)]; simp)
  have HRA := Lib.hid (And.intro RA (And.intro hr2 (And.intro hv2 hL2)))
  have HNs := Lib.hid (And.intro hnY hnG)
  clear RA hr2 hv2 hL2 hnY hnG
  go_region_law (first | (refine step_append_lies _ rfl (.tmp 109) (.tmp 111) 42 rfl 0 3 i0 _ 1 8 Try.underlying42 HI.out.1 HI.out.2.1 HI.out.2.2.1 HI.out.2.2.2 rfl (by decide) (.slice AL l.length cL) l.length (l.map encI) ?_ ?_ ⟨W.heap.size, 0, none⟩ 1 1 [.int .i64 x] ?_ ?_ ?_ ?_ (by decide) ?_ ?_ ?_ _ rfl ?_; (rfl); (exact own_same HLo.out fun b hb => Below.heap_alloc _ _ _ (own_lt' HLo.out hb)); (rfl); (rfl); (exact cell_one_new W _ _); ((intro u hu; rw [List.mem_singleton] at hu; subst hu; rfl)); ((unfold maxLen; omega)); (omega); (exact Nat.zero_le _); intro g9 cap9 w9 hown9 hgrow9 hat9 hlt9; have c0 := (hgrow9.cell_far ⟨Y.r, 0, none⟩ (Nat.lt_of_lt_of_le hYlt (by simp)) HNs.out.1).trans ((World.cell?_of_block (Below.heap_alloc _ _ _ hYlt)).trans c0); have x0 := (hgrow9.cell_far ⟨g, i * 3, none⟩ (Nat.lt_of_lt_of_le hGlt (by simp)) HNs.out.2).trans ((World.cell?_of_block (Below.heap_alloc _ _ _ hGlt)).trans x0); have fr0 := (hgrow9.frozen_far ⟨g, i * 3, none⟩ (Nat.lt_of_lt_of_le hGlt (by simp)) HNs.out.2).trans ((World.frozen?_of_block (Below.heap_alloc _ _ _ hGlt)).trans fr0); have H9 := Lib.hid (And.intro hown9 (And.intro hgrow9 hat9)); clear hown9 hgrow9 hat9))
  all_goals (go_wp2_with fail; go_ret; refine ⟨rfl, ?_⟩; have h7 := HRA.out.1.growL HRA.out.2.1 HRA.out.2.2.1 (w0 := (W.alloc (.cells #[.int .i64 x] 3)).drew) (below_drew ((Below.refl _ _).alloc (Nat.le_refl _) _)) (by rw [HRA.out.2.2.2]; exact H9.out.2.1) (ls := l ++ [x]) (by rw [List.length_append, List.map_append]; exact H9.out.1) (by rw [HRA.out.2.2.2]; exact H9.out.2.2.imp id (fun e => congrArg some e)); exact h7)

end
end Go.Proofs.Ytackjeckafoojaa.Kv
