/- The reference's pool: Append, where a page is taken. -/
import Derived.Test.YtackjeckafoojaaKvPc
set_option linter.unusedVariables false
set_option linter.unusedSimpArgs false
namespace Go.Proofs.Ytackjeckafoojaa.Kv
open Go.RowKit
attribute [local go_sem ↓] Kit.execOp_call_slot
attribute [local go_sem] Kit.callSlot_func
theorem ints_append (a b : List Nat) : ints (a ++ b) = ints a ++ ints b := by simp [ints]
section
variable {W : World} {ρ : Nat → Option RRole} {Y : RLay} {p z : Nat} {rows : List RRow}
set_option maxRecDepth 100000 in
set_option maxHeartbeats 2000000 in
theorem app_new_R (h : RefAt W ρ Y p z rows) (ht : Tame rows) (hp : p ≤ 256) (hz : 1 ≤ z ∧ z ≤ 64) {i : Nat} {l : List Int} {ps : List Nat} (hr : rows[i]? = some ⟨l, ps, true⟩) (x : Int) (hm : l.length % z = 0) {a : Nat} (hf : refFirst rows p = (a : Int)) (hnil : Y.pv i ≠ .slice none 0 0) :
    Calls Try.prog 35 #[.pointer (some ⟨Y.r, 0, none⟩), .int .i64 (i : Int), .int .i64 x] W fun e w' => e = .returned (.int .i64 0) ∧ RStep W ρ Y p z (rows.set i ⟨l ++ [x], ps ++ [a], true⟩) w' := by
  have hc := right_R h (i : Int) ht.1
  rw [show refRight rows (i : Int) = true by unfold refRight; rw [if_pos (by omega), Int.toNat_natCast, hr]; rfl] at hc
  have HC := Lib.hid hc
  have HFi := Lib.hid (first_R h ht hp)
  obtain ⟨i0, hi0, hz0, hz1, hz2⟩ := info_parts infoI
  have HI := Lib.hid (And.intro hi0 (And.intro hz0 (And.intro hz1 hz2)))
  obtain ⟨c0, c1, c2, f0⟩ := h.cells
  obtain ⟨g, cap, hv, hgY, hg, x0, x1, x2, fr⟩ := h.row hr
  rw [hv] at c0
  have hi := (List.getElem?_eq_some_iff.1 hr).1
  have hn' : (rows.length : Int) ≤ 100 := by have := ht.1; omega
  have hi' : (i : Int) < (rows.length : Int) := by omega
  have h1 : ¬ (i : Int) < 0 := by omega
  obtain ⟨hps, hls⟩ := ht.2 _ (List.mem_of_getElem? hr)
  have hps' : (ps.length : Int) ≤ 256 := by simp at hps; omega
  have hls' : (l.length : Int) ≤ 1000 := by simp at hls; omega
  clear hps hls
  obtain ⟨AL, cL, hLv⟩ := h.lForm hr
  obtain ⟨AP, cP, hPv⟩ := h.pForm hr
  simp only at hLv hPv
  rw [hLv] at x0
  rw [hPv] at x1
  have q0 : ¬ z = 0 := by omega
  have q1 : ¬ (z : Int) = 0 := by omega
  obtain ⟨a0, ha0⟩ : ∃ a0, a0 = l.length % z := ⟨_, rfl⟩
  have q2 : Int.tmod (l.length : Int) (z : Int) = (a0 : Int) := by rw [ha0]; rfl
  have q3 : (a0 : Int) ≤ 1000 := by have := Nat.mod_le l.length z; omega
  have fr0 := fr (i * 3)
  have fr1 := fr (i * 3 + 1)
  have hYlt0 : Y.r < W.heap.size := h.lt _ (by rw [h.rbox]; simp)
  have hGlt0 : g < W.heap.size := h.lt _ (by rw [hg]; simp)
  have hpo := h.p i _ hr
  rw [hPv] at hpo
  have q4 : (a0 : Int) = 0 := by omega
  obtain ⟨gp, hgp⟩ : ∃ gp, AP = some ⟨gp, 0, none⟩ := by
    rcases hpo.2 with ⟨e, -⟩ | ⟨gp, cap', cur, e, -⟩
    · exact absurd (hPv.trans e) hnil
    · injection e with e1
      exact ⟨gp, e1⟩
  subst hgp
  have hcells := fun j u (hj : (ints ps)[j]? = some u) => hpo.cells (g := gp) rfl j u hj
  have HPo := Lib.hid (And.intro hpo hcells)
  rw [hf] at HFi
  clear hpo hcells hf hnil
  have ha' : ¬ (a : Int) < 0 := by omega
  have HX := Lib.hid (And.intro h (And.intro hr (And.intro hv (And.intro hgY (And.intro hg (And.intro hLv (And.intro hPv ha0)))))))
  clear h hr hv hg fr hc hi hi0 hz0 hz1 hz2 hLv hPv ha0
  go_enter Try.func35, Try.ntmps35
  go_wp2_with fail
  with_reducible refine Calls.mono HC.out ?_
  rintro e w1 ⟨rfl, rfl⟩
  go_wp2_with fail
  with_reducible refine Calls.mono HFi.out ?_
  rintro e w1 ⟨rfl, rfl⟩
  go_wp2_with (at_builtin; refine wpList_append_own_at _ (by rfl) (.tmp 64) (.tmp 72) 42 (by rfl) W.heap.size 3 i0 _ 1 8 Try.underlying42 HI.out.1 HI.out.2.1 HI.out.2.2.1 HI.out.2.2.2 (by rfl) (by decide) _ 0 _ (by rfl) (World.ownsRow_nil _ _ _ _) ⟨gp, 0, none⟩ ps.length cP (ints ps) (by rfl) (by simp [ints]) (by intro j u hj; exact HPo.out.2 j u hj) (by intro u hu; obtain ⟨q, _, rfl⟩ := List.mem_map.1 hu; rfl) (by unfold maxLen; omega) (by omega) (Nat.le_refl _) ?_; intro v' w5 hown5 hgrow5 _ hat5; rw [Nat.zero_add, List.nil_append] at hown5; obtain ⟨A5, c5, rfl⟩ := own_form hown5; have hb5 : Below W.heap.size W w5 := ⟨hgrow5.os, hgrow5.tape, hgrow5.output, hgrow5.size, fun b hb => hgrow5.block b hb (by simp [Value.ownBlock])⟩; have c0 := (World.cell?_of_block (hb5.block Y.r hYlt0)).trans c0; have x1 := (World.cell?_of_block (hb5.block g hGlt0)).trans x1; have fr1 := (World.frozen?_of_block (hb5.block g hGlt0)).trans fr1; have H5 := Lib.hid (And.intro hown5 hb5); clear hown5 hgrow5 hat5 hb5)
  have hnY5 : some Y.r ≠ (Value.slice A5 ps.length c5).ownBlock := by intro e; have := (H5.out.1.lt _ e.symm).1; omega
  have hnG5 : some g ≠ (Value.slice A5 ps.length c5).ownBlock := by intro e; have := (H5.out.1.lt _ e.symm).1; omega
  have hY5 : Y.r < w5.heap.size := Nat.lt_of_lt_of_le hYlt0 H5.out.2.size
  have hG5 : g < w5.heap.size := Nat.lt_of_lt_of_le hGlt0 H5.out.2.size
  have HN5 := Lib.hid (And.intro hnY5 hnG5)
  clear hnY5 hnG5
  go_region_held_law (fun w' => w'.cell? ⟨Y.r, 0, none⟩ = some (.slice (some ⟨g, 0, none⟩) rows.length cap)) (first | exact c0 | assumption | go_keep)
    (first | (refine step_append_lies _ rfl (.tmp 91) (.tmp 93) 42 rfl W.heap.size 3 i0 _ 1 8 Try.underlying42 HI.out.1 HI.out.2.1 HI.out.2.2.1 HI.out.2.2.2 rfl (by decide) (.slice A5 ps.length c5) ps.length (ints ps) ?_ ?_ ⟨w5.heap.size, 0, none⟩ 1 1 [.int .i64 a] ?_ ?_ ?_ ?_ (by decide) ?_ ?_ ?_ _ rfl ?_; (rfl); (exact own_same H5.out.1 fun b hb => Below.heap_alloc _ _ _ (own_lt' H5.out.1 hb)); (rfl); (rfl); (exact cell_one_new w5 _ _); (intro u hu; rw [List.mem_singleton] at hu; subst hu; rfl); (unfold maxLen; omega); (omega); (have := H5.out.2.size; simp; omega); intro g9 cap9 w9 hown9 hgrow9 hat9 hlt9; have c0 := (hgrow9.cell_far ⟨Y.r, 0, none⟩ (Nat.lt_of_lt_of_le hY5 (by simp)) HN5.out.1).trans ((World.cell?_of_block (Below.heap_alloc _ _ _ hY5)).trans c0); have x1 := (hgrow9.cell_far ⟨g, i * 3 + 1, none⟩ (Nat.lt_of_lt_of_le hG5 (by simp)) HN5.out.2).trans ((World.cell?_of_block (Below.heap_alloc _ _ _ hG5)).trans x1); have fr1 := (hgrow9.frozen_far ⟨g, i * 3 + 1, none⟩ (Nat.lt_of_lt_of_le hG5 (by simp)) HN5.out.2).trans ((World.frozen?_of_block (Below.heap_alloc _ _ _ hG5)).trans fr1); have H9 := Lib.hid (And.intro hown9 (And.intro hgrow9 hat9)); clear hown9 hgrow9 hat9))
  have hb9 : Below W.heap.size W w9 := by
    refine ⟨H9.out.2.1.os.trans H5.out.2.os, H9.out.2.1.tape.trans H5.out.2.tape, H9.out.2.1.output.trans H5.out.2.output, ?_, fun b hb => ?_⟩
    · have h6 := H5.out.2.size; have h7 := H9.out.2.1.size; simp at h7; omega
    · have hb5 : b < w5.heap.size := Nat.lt_of_lt_of_le hb H5.out.2.size
      refine ((H9.out.2.1.block b (Nat.lt_of_lt_of_le hb5 (by simp)) (fun e => by have := (H5.out.1.lt b e.symm).1; omega)).trans (Below.heap_alloc _ _ _ hb5)).trans (H5.out.2.block b hb)
  have hst := HX.out.1.newP HX.out.2.1 HX.out.2.2.1 hb9 (v' := .slice (some ⟨g9, 0, none⟩) (ps.length + 1) cap9) (qs := ps ++ [a]) (by rw [List.length_append, ints_append]; exact H9.out.1)
  obtain ⟨w10, hw10⟩ : ∃ w10, w10 = w9.setCell ⟨g, i * 3 + 1, none⟩ (.slice (some ⟨g9, 0, none⟩) (ps.length + 1) cap9) := ⟨_, rfl⟩
  rw [← hw10] at hst ⊢
  obtain ⟨ρ2, Y2, RA, hYr2, hfr2⟩ := hst
  have hi3 : i < rows.length := by omega
  have hr2 : (rows.set i ⟨l, ps ++ [a], true⟩)[i]? = some ⟨l, ps ++ [a], true⟩ := by rw [List.getElem?_set, if_pos rfl, if_pos hi3]
  clear c0 c1 c2 f0 x0 x1 x2 fr0 fr1
  obtain ⟨c0, c1, c2, f0⟩ := RA.cells
  obtain ⟨g2, cap2, hv2, hgY2, -, x0, x1, x2, fr⟩ := RA.row hr2
  rw [hYr2] at hgY2
  obtain ⟨AL2, cL2, hL2⟩ := RA.lForm hr2
  simp only at hL2
  rw [hL2] at x0
  rw [hYr2] at c0 c1 c2
  rw [hv2, List.length_set] at c0
  have fr0 := fr (i * 3)
  have HF2 := Lib.hid (And.intro hfr2 hYr2)
  clear fr hfr2 hb9 hw10 x1 x2
  go_wp2_with fail
  have HLo : Hid (w10.ownsRow 0 3 1 (.slice AL2 l.length cL2) l.length (l.map encI)) := by have := RA.l i _ hr2; rw [hL2] at this; exact this
  have hnY : some Y.r ≠ (Value.slice AL2 l.length cL2).ownBlock := by intro e; have h5 := RA.rl i _ Y.r hr2 (by rw [hL2]; exact e.symm); rw [← hYr2, RA.rbox] at h5; cases h5
  have hnG : some g2 ≠ (Value.slice AL2 l.length cL2).ownBlock := by intro e; have h5 := RA.rl i _ g2 hr2 (by rw [hL2]; exact e.symm); rw [RA.rrows g2 (by rw [hv2]; rfl)] at h5; cases h5
  have hYlt : Y.r < w10.heap.size := by rw [← hYr2]; exact RA.lt _ (by rw [RA.rbox]; simp)
  have hGlt : g2 < w10.heap.size := RA.lt _ (by rw [RA.rrows g2 (by rw [hv2]; rfl)]; simp)
  have HRA := Lib.hid (And.intro RA (And.intro hr2 (And.intro hv2 hL2)))
  have HNs := Lib.hid (And.intro hnY hnG)
  clear RA hr2 hv2 hL2 hnY hnG
  go_region_law (first | (refine step_append_lies _ rfl (.tmp 109) (.tmp 111) 42 rfl 0 3 i0 _ 1 8 Try.underlying42 HI.out.1 HI.out.2.1 HI.out.2.2.1 HI.out.2.2.2 rfl (by decide) (.slice AL2 l.length cL2) l.length (l.map encI) ?_ ?_ ⟨w10.heap.size, 0, none⟩ 1 1 [.int .i64 x] ?_ ?_ ?_ ?_ (by decide) ?_ ?_ ?_ _ rfl ?_; (rfl); (exact own_same HLo.out fun b hb => Below.heap_alloc _ _ _ (own_lt' HLo.out hb)); (rfl); (rfl); (exact cell_one_new w10 _ _); ((intro u hu; rw [List.mem_singleton] at hu; subst hu; rfl)); ((unfold maxLen; omega)); (omega); (exact Nat.zero_le _); intro g9 cap9 w9 hown9 hgrow9 hat9 hlt9; have c0 := (hgrow9.cell_far ⟨Y.r, 0, none⟩ (Nat.lt_of_lt_of_le hYlt (by simp)) HNs.out.1).trans ((World.cell?_of_block (Below.heap_alloc _ _ _ hYlt)).trans c0); have x0 := (hgrow9.cell_far ⟨g2, i * 3, none⟩ (Nat.lt_of_lt_of_le hGlt (by simp)) HNs.out.2).trans ((World.cell?_of_block (Below.heap_alloc _ _ _ hGlt)).trans x0); have fr0 := (hgrow9.frozen_far ⟨g2, i * 3, none⟩ (Nat.lt_of_lt_of_le hGlt (by simp)) HNs.out.2).trans ((World.frozen?_of_block (Below.heap_alloc _ _ _ hGlt)).trans fr0); have H9 := Lib.hid (And.intro hown9 (And.intro hgrow9 hat9)); clear hown9 hgrow9 hat9))
  all_goals (go_wp2_with fail; go_ret; refine ⟨rfl, ?_⟩; have h7 := HRA.out.1.growL HRA.out.2.1 HRA.out.2.2.1 (w0 := (w10.alloc (.cells #[.int .i64 x] 3)).drew) (below_drew ((Below.refl _ _).alloc (Nat.le_refl _) _)) (by rw [HRA.out.2.2.2]; exact H9.out.2.1) (ls := l ++ [x]) (by rw [List.length_append, List.map_append]; exact H9.out.1) (by rw [HRA.out.2.2.2]; exact H9.out.2.2.imp id (fun e => congrArg some e)); (rw [List.set_set] at h7; exact RStep.of2 HF2.out.1 HF2.out.2 h7))
set_option maxRecDepth 100000 in
set_option maxHeartbeats 2000000 in
theorem app_newB_R (h : RefAt W ρ Y p z rows) (ht : Tame rows) (hp : p ≤ 256) (hz : 1 ≤ z ∧ z ≤ 64) {i : Nat} {l : List Int} {ps : List Nat} (hr : rows[i]? = some ⟨l, ps, true⟩) (x : Int) (hm : l.length % z ≠ 0) {k : Nat} (hk : ps.length = k + 1) (hcn : 1 < refCount rows (ps.getD k 0 : Int)) {a : Nat} (hf : refFirst rows p = (a : Int)) :
    Calls Try.prog 35 #[.pointer (some ⟨Y.r, 0, none⟩), .int .i64 (i : Int), .int .i64 x] W fun e w' => e = .returned (.int .i64 0) ∧ RStep W ρ Y p z (rows.set i ⟨l ++ [x], ps.take k ++ [a], true⟩) w' := by
  have hc := right_R h (i : Int) ht.1
  rw [show refRight rows (i : Int) = true by unfold refRight; rw [if_pos (by omega), Int.toNat_natCast, hr]; rfl] at hc
  have HC := Lib.hid hc
  have HFi := Lib.hid (first_R h ht hp)
  obtain ⟨i0, hi0, hz0, hz1, hz2⟩ := info_parts infoI
  have HI := Lib.hid (And.intro hi0 (And.intro hz0 (And.intro hz1 hz2)))
  obtain ⟨c0, c1, c2, f0⟩ := h.cells
  obtain ⟨g, cap, hv, hgY, hg, x0, x1, x2, fr⟩ := h.row hr
  rw [hv] at c0
  have hi := (List.getElem?_eq_some_iff.1 hr).1
  have hn' : (rows.length : Int) ≤ 100 := by have := ht.1; omega
  have hi' : (i : Int) < (rows.length : Int) := by omega
  have h1 : ¬ (i : Int) < 0 := by omega
  obtain ⟨hps, hls⟩ := ht.2 _ (List.mem_of_getElem? hr)
  have hps' : (ps.length : Int) ≤ 256 := by simp at hps; omega
  have hls' : (l.length : Int) ≤ 1000 := by simp at hls; omega
  clear hps hls
  obtain ⟨AL, cL, hLv⟩ := h.lForm hr
  obtain ⟨AP, cP, hPv⟩ := h.pForm hr
  simp only at hLv hPv
  rw [hLv] at x0
  rw [hPv] at x1
  have q0 : ¬ z = 0 := by omega
  have q1 : ¬ (z : Int) = 0 := by omega
  obtain ⟨a0, ha0⟩ : ∃ a0, a0 = l.length % z := ⟨_, rfl⟩
  have q2 : Int.tmod (l.length : Int) (z : Int) = (a0 : Int) := by rw [ha0]; rfl
  have q3 : (a0 : Int) ≤ 1000 := by have := Nat.mod_le l.length z; omega
  have fr0 := fr (i * 3)
  have fr1 := fr (i * 3 + 1)
  have hYlt0 : Y.r < W.heap.size := h.lt _ (by rw [h.rbox]; simp)
  have hGlt0 : g < W.heap.size := h.lt _ (by rw [hg]; simp)
  have hcr := count_R h (ps.getD k 0 : Int) ht
  obtain ⟨cn, hcn0⟩ : ∃ cn, cn = refCount rows (ps.getD k 0 : Int) := ⟨_, rfl⟩
  rw [← hcn0] at hcn hcr
  have hcn' : 1 < (cn : Int) := by omega
  have HCn := Lib.hid hcr
  have q4 : ¬ (a0 : Int) = 0 := by omega
  have hpo := h.p i _ hr
  rw [hPv] at hpo
  obtain ⟨gp, cp', ep, -, hcells⟩ := own_read hpo (by simp; omega)
  injection ep with ep1 _ ep3
  subst ep1
  subst ep3
  have hkc : k + 1 ≤ cP := by
    rcases hpo.2 with ⟨e, -⟩ | ⟨gp, cap', cur, e, -, -, h3, -⟩
    · cases e
    · injection e with _ _ e3
      simp only at h3
      omega
  have hkc1 : (k : Int) ≤ (cP : Int) := by omega
  have hkc2 : k ≤ cP := by omega
  obtain ⟨pl, hpl⟩ : ∃ pl, pl = ps.getD k 0 := ⟨_, rfl⟩
  have y0 := hcells k (.int .i64 (pl : Int)) (by rw [hpl, List.getD_eq_getElem?_getD, List.getElem?_eq_getElem (show k < ps.length by omega)]; simp [ints, List.getElem?_eq_getElem (show k < ps.length by omega)])
  rw [← hpl] at HCn
  have hcells2 := fun j u (hj : (ints (ps.take k))[j]? = some u) => hpo.cells (g := gp) rfl j u (by
    have e : ints (ps.take k) = (ints ps).take k := by simp [ints, List.map_take]
    rw [e, List.getElem?_take] at hj
    split at hj
    · exact hj
    · cases hj)
  obtain ⟨qs, hqs⟩ : ∃ qs, qs = ps.take k := ⟨_, rfl⟩
  rw [← hqs] at hcells2 ⊢
  have hql : qs.length = k := by rw [hqs, List.length_take]; omega
  have HPo := Lib.hid (And.intro hcells2 hql)
  simp only [hk] at x1 hps'
  rw [hf] at HFi
  clear hcells hcells2 hpo hcr hcn0 hpl hf hqs hql
  have ha' : ¬ (a : Int) < 0 := by omega
  have HX := Lib.hid (And.intro h (And.intro hr (And.intro hv (And.intro hgY (And.intro hg (And.intro hLv (And.intro hPv ha0)))))))
  clear h hr hv hg fr hc hi hi0 hz0 hz1 hz2 hLv hPv ha0
  go_enter Try.func35, Try.ntmps35
  go_wp2_with fail
  with_reducible refine Calls.mono HC.out ?_
  rintro e w1 ⟨rfl, rfl⟩
  go_wp2_with fail
  with_reducible refine Calls.mono HCn.out ?_
  rintro e w1 ⟨rfl, rfl⟩
  go_wp2_with fail
  with_reducible refine Calls.mono HFi.out ?_
  rintro e w1 ⟨rfl, rfl⟩
  go_wp2_with (at_builtin; refine wpList_append_own_at _ (by rfl) (.tmp 74) (.tmp 84) 42 (by rfl) W.heap.size 3 i0 _ 1 8 Try.underlying42 HI.out.1 HI.out.2.1 HI.out.2.2.1 HI.out.2.2.2 (by rfl) (by decide) _ 0 _ (by rfl) (World.ownsRow_nil _ _ _ _) ⟨gp, 0, none⟩ k cP (ints qs) (by rfl) (by simp [ints, HPo.out.2]) (by intro j u hj; exact HPo.out.1 j u hj) (by intro u hu; obtain ⟨q, _, rfl⟩ := List.mem_map.1 hu; rfl) (by unfold maxLen; omega) (by omega) (Nat.le_refl _) ?_; intro v' w5 hown5 hgrow5 _ hat5; rw [Nat.zero_add, List.nil_append] at hown5; obtain ⟨A5, c5, rfl⟩ := own_form hown5; have hb5 : Below W.heap.size W w5 := ⟨hgrow5.os, hgrow5.tape, hgrow5.output, hgrow5.size, fun b hb => hgrow5.block b hb (by simp [Value.ownBlock])⟩; have c0 := (World.cell?_of_block (hb5.block Y.r hYlt0)).trans c0; have x1 := (World.cell?_of_block (hb5.block g hGlt0)).trans x1; have fr1 := (World.frozen?_of_block (hb5.block g hGlt0)).trans fr1; have H5 := Lib.hid (And.intro hown5 hb5); clear hown5 hgrow5 hat5 hb5)
  have hnY5 : some Y.r ≠ (Value.slice A5 k c5).ownBlock := by intro e; have := (H5.out.1.lt _ e.symm).1; omega
  have hnG5 : some g ≠ (Value.slice A5 k c5).ownBlock := by intro e; have := (H5.out.1.lt _ e.symm).1; omega
  have hY5 : Y.r < w5.heap.size := Nat.lt_of_lt_of_le hYlt0 H5.out.2.size
  have hG5 : g < w5.heap.size := Nat.lt_of_lt_of_le hGlt0 H5.out.2.size
  have HN5 := Lib.hid (And.intro hnY5 hnG5)
  clear hnY5 hnG5
  go_region_held_law (fun w' => w'.cell? ⟨Y.r, 0, none⟩ = some (.slice (some ⟨g, 0, none⟩) rows.length cap)) (first | exact c0 | assumption | go_keep)
    (first | (refine step_append_lies _ rfl (.tmp 91) (.tmp 93) 42 rfl W.heap.size 3 i0 _ 1 8 Try.underlying42 HI.out.1 HI.out.2.1 HI.out.2.2.1 HI.out.2.2.2 rfl (by decide) (.slice A5 k c5) k (ints qs) ?_ ?_ ⟨w5.heap.size, 0, none⟩ 1 1 [.int .i64 a] ?_ ?_ ?_ ?_ (by decide) ?_ ?_ ?_ _ rfl ?_; (rfl); (exact own_same H5.out.1 fun b hb => Below.heap_alloc _ _ _ (own_lt' H5.out.1 hb)); (rfl); (rfl); (exact cell_one_new w5 _ _); (intro u hu; rw [List.mem_singleton] at hu; subst hu; rfl); (unfold maxLen; omega); (omega); (have := H5.out.2.size; simp; omega); intro g9 cap9 w9 hown9 hgrow9 hat9 hlt9; have c0 := (hgrow9.cell_far ⟨Y.r, 0, none⟩ (Nat.lt_of_lt_of_le hY5 (by simp)) HN5.out.1).trans ((World.cell?_of_block (Below.heap_alloc _ _ _ hY5)).trans c0); have x1 := (hgrow9.cell_far ⟨g, i * 3 + 1, none⟩ (Nat.lt_of_lt_of_le hG5 (by simp)) HN5.out.2).trans ((World.cell?_of_block (Below.heap_alloc _ _ _ hG5)).trans x1); have fr1 := (hgrow9.frozen_far ⟨g, i * 3 + 1, none⟩ (Nat.lt_of_lt_of_le hG5 (by simp)) HN5.out.2).trans ((World.frozen?_of_block (Below.heap_alloc _ _ _ hG5)).trans fr1); have H9 := Lib.hid (And.intro hown9 (And.intro hgrow9 hat9)); clear hown9 hgrow9 hat9))
  have hb9 : Below W.heap.size W w9 := by
    refine ⟨H9.out.2.1.os.trans H5.out.2.os, H9.out.2.1.tape.trans H5.out.2.tape, H9.out.2.1.output.trans H5.out.2.output, ?_, fun b hb => ?_⟩
    · have h6 := H5.out.2.size; have h7 := H9.out.2.1.size; simp at h7; omega
    · have hb5 : b < w5.heap.size := Nat.lt_of_lt_of_le hb H5.out.2.size
      refine ((H9.out.2.1.block b (Nat.lt_of_lt_of_le hb5 (by simp)) (fun e => by have := (H5.out.1.lt b e.symm).1; omega)).trans (Below.heap_alloc _ _ _ hb5)).trans (H5.out.2.block b hb)
  have hst := HX.out.1.newP HX.out.2.1 HX.out.2.2.1 hb9 (v' := .slice (some ⟨g9, 0, none⟩) (k + 1) cap9) (qs := qs ++ [a]) (by rw [List.length_append, ints_append, HPo.out.2]; exact H9.out.1)
  obtain ⟨w10, hw10⟩ : ∃ w10, w10 = w9.setCell ⟨g, i * 3 + 1, none⟩ (.slice (some ⟨g9, 0, none⟩) (k + 1) cap9) := ⟨_, rfl⟩
  rw [← hw10] at hst ⊢
  obtain ⟨ρ2, Y2, RA, hYr2, hfr2⟩ := hst
  have hi3 : i < rows.length := by omega
  have hr2 : (rows.set i ⟨l, qs ++ [a], true⟩)[i]? = some ⟨l, qs ++ [a], true⟩ := by rw [List.getElem?_set, if_pos rfl, if_pos hi3]
  clear c0 c1 c2 f0 x0 x1 x2 fr0 fr1
  obtain ⟨c0, c1, c2, f0⟩ := RA.cells
  obtain ⟨g2, cap2, hv2, hgY2, -, x0, x1, x2, fr⟩ := RA.row hr2
  rw [hYr2] at hgY2
  obtain ⟨AL2, cL2, hL2⟩ := RA.lForm hr2
  simp only at hL2
  rw [hL2] at x0
  rw [hYr2] at c0 c1 c2
  rw [hv2, List.length_set] at c0
  have fr0 := fr (i * 3)
  have HF2 := Lib.hid (And.intro hfr2 hYr2)
  clear fr hfr2 hb9 hw10 x1 x2
  go_wp2_with fail
  have HLo : Hid (w10.ownsRow 0 3 1 (.slice AL2 l.length cL2) l.length (l.map encI)) := by have := RA.l i _ hr2; rw [hL2] at this; exact this
  have hnY : some Y.r ≠ (Value.slice AL2 l.length cL2).ownBlock := by intro e; have h5 := RA.rl i _ Y.r hr2 (by rw [hL2]; exact e.symm); rw [← hYr2, RA.rbox] at h5; cases h5
  have hnG : some g2 ≠ (Value.slice AL2 l.length cL2).ownBlock := by intro e; have h5 := RA.rl i _ g2 hr2 (by rw [hL2]; exact e.symm); rw [RA.rrows g2 (by rw [hv2]; rfl)] at h5; cases h5
  have hYlt : Y.r < w10.heap.size := by rw [← hYr2]; exact RA.lt _ (by rw [RA.rbox]; simp)
  have hGlt : g2 < w10.heap.size := RA.lt _ (by rw [RA.rrows g2 (by rw [hv2]; rfl)]; simp)
  have HRA := Lib.hid (And.intro RA (And.intro hr2 (And.intro hv2 hL2)))
  have HNs := Lib.hid (And.intro hnY hnG)
  clear RA hr2 hv2 hL2 hnY hnG
  go_region_law (first | (refine step_append_lies _ rfl (.tmp 109) (.tmp 111) 42 rfl 0 3 i0 _ 1 8 Try.underlying42 HI.out.1 HI.out.2.1 HI.out.2.2.1 HI.out.2.2.2 rfl (by decide) (.slice AL2 l.length cL2) l.length (l.map encI) ?_ ?_ ⟨w10.heap.size, 0, none⟩ 1 1 [.int .i64 x] ?_ ?_ ?_ ?_ (by decide) ?_ ?_ ?_ _ rfl ?_; (rfl); (exact own_same HLo.out fun b hb => Below.heap_alloc _ _ _ (own_lt' HLo.out hb)); (rfl); (rfl); (exact cell_one_new w10 _ _); ((intro u hu; rw [List.mem_singleton] at hu; subst hu; rfl)); ((unfold maxLen; omega)); (omega); (exact Nat.zero_le _); intro g9 cap9 w9 hown9 hgrow9 hat9 hlt9; have c0 := (hgrow9.cell_far ⟨Y.r, 0, none⟩ (Nat.lt_of_lt_of_le hYlt (by simp)) HNs.out.1).trans ((World.cell?_of_block (Below.heap_alloc _ _ _ hYlt)).trans c0); have x0 := (hgrow9.cell_far ⟨g2, i * 3, none⟩ (Nat.lt_of_lt_of_le hGlt (by simp)) HNs.out.2).trans ((World.cell?_of_block (Below.heap_alloc _ _ _ hGlt)).trans x0); have fr0 := (hgrow9.frozen_far ⟨g2, i * 3, none⟩ (Nat.lt_of_lt_of_le hGlt (by simp)) HNs.out.2).trans ((World.frozen?_of_block (Below.heap_alloc _ _ _ hGlt)).trans fr0); have H9 := Lib.hid (And.intro hown9 (And.intro hgrow9 hat9)); clear hown9 hgrow9 hat9))
  all_goals (go_wp2_with fail; go_ret; refine ⟨rfl, ?_⟩; have h7 := HRA.out.1.growL HRA.out.2.1 HRA.out.2.2.1 (w0 := (w10.alloc (.cells #[.int .i64 x] 3)).drew) (below_drew ((Below.refl _ _).alloc (Nat.le_refl _) _)) (by rw [HRA.out.2.2.2]; exact H9.out.2.1) (ls := l ++ [x]) (by rw [List.length_append, List.map_append]; exact H9.out.1) (by rw [HRA.out.2.2.2]; exact H9.out.2.2.imp id (fun e => congrArg some e)); (rw [List.set_set] at h7; exact RStep.of2 HF2.out.1 HF2.out.2 h7))
set_option maxRecDepth 100000 in
set_option maxHeartbeats 2000000 in
theorem app_new0_R (h : RefAt W ρ Y p z rows) (ht : Tame rows) (hp : p ≤ 256) (hz : 1 ≤ z ∧ z ≤ 64) {i : Nat} {l : List Int} (hr : rows[i]? = some ⟨l, [], true⟩) (x : Int) (hm : l.length % z = 0) {a : Nat} (hf : refFirst rows p = (a : Int)) (hnil : Y.pv i = .slice none 0 0) :
    Calls Try.prog 35 #[.pointer (some ⟨Y.r, 0, none⟩), .int .i64 (i : Int), .int .i64 x] W fun e w' => e = .returned (.int .i64 0) ∧ RStep W ρ Y p z (rows.set i ⟨l ++ [x], [] ++ [a], true⟩) w' := by
  have hc := right_R h (i : Int) ht.1
  rw [show refRight rows (i : Int) = true by unfold refRight; rw [if_pos (by omega), Int.toNat_natCast, hr]; rfl] at hc
  have HC := Lib.hid hc
  have HFi := Lib.hid (first_R h ht hp)
  obtain ⟨i0, hi0, hz0, hz1, hz2⟩ := info_parts infoI
  have HI := Lib.hid (And.intro hi0 (And.intro hz0 (And.intro hz1 hz2)))
  obtain ⟨c0, c1, c2, f0⟩ := h.cells
  obtain ⟨g, cap, hv, hgY, hg, x0, x1, x2, fr⟩ := h.row hr
  rw [hv] at c0
  have hi := (List.getElem?_eq_some_iff.1 hr).1
  have hn' : (rows.length : Int) ≤ 100 := by have := ht.1; omega
  have hi' : (i : Int) < (rows.length : Int) := by omega
  have h1 : ¬ (i : Int) < 0 := by omega
  obtain ⟨hps, hls⟩ := ht.2 _ (List.mem_of_getElem? hr)
  have hls' : (l.length : Int) ≤ 1000 := by simp at hls; omega
  clear hps hls
  obtain ⟨AL, cL, hLv⟩ := h.lForm hr
  obtain ⟨AP, cP, hPv⟩ := h.pForm hr
  simp only at hLv hPv
  rw [hLv] at x0
  rw [hPv] at x1
  have q0 : ¬ z = 0 := by omega
  have q1 : ¬ (z : Int) = 0 := by omega
  obtain ⟨a0, ha0⟩ : ∃ a0, a0 = l.length % z := ⟨_, rfl⟩
  have q2 : Int.tmod (l.length : Int) (z : Int) = (a0 : Int) := by rw [ha0]; rfl
  have q3 : (a0 : Int) ≤ 1000 := by have := Nat.mod_le l.length z; omega
  have fr0 := fr (i * 3)
  have fr1 := fr (i * 3 + 1)
  have hYlt0 : Y.r < W.heap.size := h.lt _ (by rw [h.rbox]; simp)
  have hGlt0 : g < W.heap.size := h.lt _ (by rw [hg]; simp)
  have q4 : (a0 : Int) = 0 := by omega
  rw [hnil] at hPv
  rw [← hPv] at x1
  rw [hf] at HFi
  clear hf hnil
  have ha' : ¬ (a : Int) < 0 := by omega
  have HX := Lib.hid (And.intro h (And.intro hr (And.intro hv (And.intro hgY (And.intro hg (And.intro hLv (And.intro hPv ha0)))))))
  clear h hr hv hg fr hc hi hi0 hz0 hz1 hz2 hLv hPv ha0
  go_enter Try.func35, Try.ntmps35
  go_wp2_with fail
  with_reducible refine Calls.mono HC.out ?_
  rintro e w1 ⟨rfl, rfl⟩
  go_wp2_with fail
  with_reducible refine Calls.mono HFi.out ?_
  rintro e w1 ⟨rfl, rfl⟩
  go_wp2_with fail
  obtain ⟨w5, hw5⟩ : ∃ w5, w5 = W := ⟨_, rfl⟩
  have H5 : Hid (w5.ownsRow W.heap.size 3 1 (.slice none 0 0) 0 (ints []) ∧ Below W.heap.size W w5) := by rw [hw5]; exact ⟨World.ownsRow_nil _ _ _ _, Below.refl _ _⟩
  rw [← hw5] at c0 x1 fr1 ⊢
  clear hw5
  have hnY5 : some Y.r ≠ (Value.slice none 0 0).ownBlock := by intro e; have := (H5.out.1.lt _ e.symm).1; omega
  have hnG5 : some g ≠ (Value.slice none 0 0).ownBlock := by intro e; have := (H5.out.1.lt _ e.symm).1; omega
  have hY5 : Y.r < w5.heap.size := Nat.lt_of_lt_of_le hYlt0 H5.out.2.size
  have hG5 : g < w5.heap.size := Nat.lt_of_lt_of_le hGlt0 H5.out.2.size
  have HN5 := Lib.hid (And.intro hnY5 hnG5)
  clear hnY5 hnG5
  go_region_held_law (fun w' => w'.cell? ⟨Y.r, 0, none⟩ = some (.slice (some ⟨g, 0, none⟩) rows.length cap)) (first | exact c0 | assumption | go_keep)
    (first | (refine step_append_lies _ rfl (.tmp 91) (.tmp 93) 42 rfl W.heap.size 3 i0 _ 1 8 Try.underlying42 HI.out.1 HI.out.2.1 HI.out.2.2.1 HI.out.2.2.2 rfl (by decide) (.slice none 0 0) 0 (ints []) ?_ ?_ ⟨w5.heap.size, 0, none⟩ 1 1 [.int .i64 a] ?_ ?_ ?_ ?_ (by decide) ?_ ?_ ?_ _ rfl ?_; (rfl); (exact own_same H5.out.1 fun b hb => Below.heap_alloc _ _ _ (own_lt' H5.out.1 hb)); (rfl); (rfl); (exact cell_one_new w5 _ _); (intro u hu; rw [List.mem_singleton] at hu; subst hu; rfl); (unfold maxLen; omega); (omega); (have := H5.out.2.size; simp; omega); intro g9 cap9 w9 hown9 hgrow9 hat9 hlt9; have c0 := (hgrow9.cell_far ⟨Y.r, 0, none⟩ (Nat.lt_of_lt_of_le hY5 (by simp)) HN5.out.1).trans ((World.cell?_of_block (Below.heap_alloc _ _ _ hY5)).trans c0); have x1 := (hgrow9.cell_far ⟨g, i * 3 + 1, none⟩ (Nat.lt_of_lt_of_le hG5 (by simp)) HN5.out.2).trans ((World.cell?_of_block (Below.heap_alloc _ _ _ hG5)).trans x1); have fr1 := (hgrow9.frozen_far ⟨g, i * 3 + 1, none⟩ (Nat.lt_of_lt_of_le hG5 (by simp)) HN5.out.2).trans ((World.frozen?_of_block (Below.heap_alloc _ _ _ hG5)).trans fr1); have H9 := Lib.hid (And.intro hown9 (And.intro hgrow9 hat9)); clear hown9 hgrow9 hat9))
  have hb9 : Below W.heap.size W w9 := by
    refine ⟨H9.out.2.1.os.trans H5.out.2.os, H9.out.2.1.tape.trans H5.out.2.tape, H9.out.2.1.output.trans H5.out.2.output, ?_, fun b hb => ?_⟩
    · have h6 := H5.out.2.size; have h7 := H9.out.2.1.size; simp at h7; omega
    · have hb5 : b < w5.heap.size := Nat.lt_of_lt_of_le hb H5.out.2.size
      refine ((H9.out.2.1.block b (Nat.lt_of_lt_of_le hb5 (by simp)) (fun e => by have := (H5.out.1.lt b e.symm).1; omega)).trans (Below.heap_alloc _ _ _ hb5)).trans (H5.out.2.block b hb)
  have hst := HX.out.1.newP HX.out.2.1 HX.out.2.2.1 hb9 (v' := .slice (some ⟨g9, 0, none⟩) (1) cap9) (qs := [] ++ [a]) (by rw [List.length_append, ints_append]; exact H9.out.1)
  obtain ⟨w10, hw10⟩ : ∃ w10, w10 = w9.setCell ⟨g, i * 3 + 1, none⟩ (.slice (some ⟨g9, 0, none⟩) (1) cap9) := ⟨_, rfl⟩
  rw [← hw10] at hst ⊢
  obtain ⟨ρ2, Y2, RA, hYr2, hfr2⟩ := hst
  have hi3 : i < rows.length := by omega
  have hr2 : (rows.set i ⟨l, [] ++ [a], true⟩)[i]? = some ⟨l, [] ++ [a], true⟩ := by rw [List.getElem?_set, if_pos rfl, if_pos hi3]
  clear c0 c1 c2 f0 x0 x1 x2 fr0 fr1
  obtain ⟨c0, c1, c2, f0⟩ := RA.cells
  obtain ⟨g2, cap2, hv2, hgY2, -, x0, x1, x2, fr⟩ := RA.row hr2
  rw [hYr2] at hgY2
  obtain ⟨AL2, cL2, hL2⟩ := RA.lForm hr2
  simp only at hL2
  rw [hL2] at x0
  rw [hYr2] at c0 c1 c2
  rw [hv2, List.length_set] at c0
  have fr0 := fr (i * 3)
  have HF2 := Lib.hid (And.intro hfr2 hYr2)
  clear fr hfr2 hb9 hw10 x1 x2
  go_wp2_with fail
  have HLo : Hid (w10.ownsRow 0 3 1 (.slice AL2 l.length cL2) l.length (l.map encI)) := by have := RA.l i _ hr2; rw [hL2] at this; exact this
  have hnY : some Y.r ≠ (Value.slice AL2 l.length cL2).ownBlock := by intro e; have h5 := RA.rl i _ Y.r hr2 (by rw [hL2]; exact e.symm); rw [← hYr2, RA.rbox] at h5; cases h5
  have hnG : some g2 ≠ (Value.slice AL2 l.length cL2).ownBlock := by intro e; have h5 := RA.rl i _ g2 hr2 (by rw [hL2]; exact e.symm); rw [RA.rrows g2 (by rw [hv2]; rfl)] at h5; cases h5
  have hYlt : Y.r < w10.heap.size := by rw [← hYr2]; exact RA.lt _ (by rw [RA.rbox]; simp)
  have hGlt : g2 < w10.heap.size := RA.lt _ (by rw [RA.rrows g2 (by rw [hv2]; rfl)]; simp)
  have HRA := Lib.hid (And.intro RA (And.intro hr2 (And.intro hv2 hL2)))
  have HNs := Lib.hid (And.intro hnY hnG)
  clear RA hr2 hv2 hL2 hnY hnG
  go_region_law (first | (refine step_append_lies _ rfl (.tmp 109) (.tmp 111) 42 rfl 0 3 i0 _ 1 8 Try.underlying42 HI.out.1 HI.out.2.1 HI.out.2.2.1 HI.out.2.2.2 rfl (by decide) (.slice AL2 l.length cL2) l.length (l.map encI) ?_ ?_ ⟨w10.heap.size, 0, none⟩ 1 1 [.int .i64 x] ?_ ?_ ?_ ?_ (by decide) ?_ ?_ ?_ _ rfl ?_; (rfl); (exact own_same HLo.out fun b hb => Below.heap_alloc _ _ _ (own_lt' HLo.out hb)); (rfl); (rfl); (exact cell_one_new w10 _ _); ((intro u hu; rw [List.mem_singleton] at hu; subst hu; rfl)); ((unfold maxLen; omega)); (omega); (exact Nat.zero_le _); intro g9 cap9 w9 hown9 hgrow9 hat9 hlt9; have c0 := (hgrow9.cell_far ⟨Y.r, 0, none⟩ (Nat.lt_of_lt_of_le hYlt (by simp)) HNs.out.1).trans ((World.cell?_of_block (Below.heap_alloc _ _ _ hYlt)).trans c0); have x0 := (hgrow9.cell_far ⟨g2, i * 3, none⟩ (Nat.lt_of_lt_of_le hGlt (by simp)) HNs.out.2).trans ((World.cell?_of_block (Below.heap_alloc _ _ _ hGlt)).trans x0); have fr0 := (hgrow9.frozen_far ⟨g2, i * 3, none⟩ (Nat.lt_of_lt_of_le hGlt (by simp)) HNs.out.2).trans ((World.frozen?_of_block (Below.heap_alloc _ _ _ hGlt)).trans fr0); have H9 := Lib.hid (And.intro hown9 (And.intro hgrow9 hat9)); clear hown9 hgrow9 hat9))
  all_goals (go_wp2_with fail; go_ret; refine ⟨rfl, ?_⟩; have h7 := HRA.out.1.growL HRA.out.2.1 HRA.out.2.2.1 (w0 := (w10.alloc (.cells #[.int .i64 x] 3)).drew) (below_drew ((Below.refl _ _).alloc (Nat.le_refl _) _)) (by rw [HRA.out.2.2.2]; exact H9.out.2.1) (ls := l ++ [x]) (by rw [List.length_append, List.map_append]; exact H9.out.1) (by rw [HRA.out.2.2.2]; exact H9.out.2.2.imp id (fun e => congrArg some e)); (rw [List.set_set] at h7; exact RStep.of2 HF2.out.1 HF2.out.2 h7))
end
end Go.Proofs.Ytackjeckafoojaa.Kv
namespace Go.Proofs.Ytackjeckafoojaa.Kv
open Go.RowKit
attribute [local go_sem ↓] Kit.execOp_call_slot
attribute [local go_sem] Kit.callSlot_func
section
variable {W : World} {ρ : Nat → Option RRole} {Y : RLay} {p z : Nat} {rows : List RRow}
set_option maxRecDepth 100000 in
set_option maxHeartbeats 2000000 in
theorem app_full_R (h : RefAt W ρ Y p z rows) (ht : Tame rows) (hp : p ≤ 256) (hz : 1 ≤ z ∧ z ≤ 64) {i : Nat} {l : List Int} {ps : List Nat} (hr : rows[i]? = some ⟨l, ps, true⟩) (x : Int) (hm : l.length % z = 0) (hf : refFirst rows p = -1) :
    Calls Try.prog 35 #[.pointer (some ⟨Y.r, 0, none⟩), .int .i64 (i : Int), .int .i64 x] W fun e w' => e = .returned (.int .i64 16) ∧ W = w' := by
  have hc := right_R h (i : Int) ht.1
  rw [show refRight rows (i : Int) = true by unfold refRight; rw [if_pos (by omega), Int.toNat_natCast, hr]; rfl] at hc
  have HC := Lib.hid hc
  have HFi := Lib.hid (first_R h ht hp)
  obtain ⟨i0, hi0, hz0, hz1, hz2⟩ := info_parts infoI
  have HI := Lib.hid (And.intro hi0 (And.intro hz0 (And.intro hz1 hz2)))
  obtain ⟨c0, c1, c2, f0⟩ := h.cells
  obtain ⟨g, cap, hv, hgY, hg, x0, x1, x2, fr⟩ := h.row hr
  rw [hv] at c0
  have hi := (List.getElem?_eq_some_iff.1 hr).1
  have hn' : (rows.length : Int) ≤ 100 := by have := ht.1; omega
  have hi' : (i : Int) < (rows.length : Int) := by omega
  have h1 : ¬ (i : Int) < 0 := by omega
  obtain ⟨hps, hls⟩ := ht.2 _ (List.mem_of_getElem? hr)
  have hps' : (ps.length : Int) ≤ 256 := by simp at hps; omega
  have hls' : (l.length : Int) ≤ 1000 := by simp at hls; omega
  clear hps hls
  obtain ⟨AL, cL, hLv⟩ := h.lForm hr
  obtain ⟨AP, cP, hPv⟩ := h.pForm hr
  simp only at hLv hPv
  rw [hLv] at x0
  rw [hPv] at x1
  have q0 : ¬ z = 0 := by omega
  have q1 : ¬ (z : Int) = 0 := by omega
  obtain ⟨a0, ha0⟩ : ∃ a0, a0 = l.length % z := ⟨_, rfl⟩
  have q2 : Int.tmod (l.length : Int) (z : Int) = (a0 : Int) := by rw [ha0]; rfl
  have q3 : (a0 : Int) ≤ 1000 := by have := Nat.mod_le l.length z; omega
  have fr0 := fr (i * 3)
  have fr1 := fr (i * 3 + 1)
  have q4 : (a0 : Int) = 0 := by omega
  rw [hf] at HFi
  clear hf
  have HX := Lib.hid (And.intro h (And.intro hr (And.intro hv (And.intro hgY (And.intro hg (And.intro hLv (And.intro hPv ha0)))))))
  clear h hr hv hg fr hc hi hi0 hz0 hz1 hz2 hLv hPv ha0
  go_enter Try.func35, Try.ntmps35
  go_wp2_with fail
  with_reducible refine Calls.mono HC.out ?_
  rintro e w1 ⟨rfl, rfl⟩
  go_wp2_with fail
  with_reducible refine Calls.mono HFi.out ?_
  rintro e w1 ⟨rfl, rfl⟩
  go_wp2_with fail
  go_ret
  exact ⟨rfl, rfl⟩
set_option maxRecDepth 100000 in
set_option maxHeartbeats 2000000 in
theorem app_fullB_R (h : RefAt W ρ Y p z rows) (ht : Tame rows) (hp : p ≤ 256) (hz : 1 ≤ z ∧ z ≤ 64) {i : Nat} {l : List Int} {ps : List Nat} (hr : rows[i]? = some ⟨l, ps, true⟩) (x : Int) (hm : l.length % z ≠ 0) {k : Nat} (hk : ps.length = k + 1) (hcn : 1 < refCount rows (ps.getD k 0 : Int)) (hf : refFirst rows p = -1) :
    Calls Try.prog 35 #[.pointer (some ⟨Y.r, 0, none⟩), .int .i64 (i : Int), .int .i64 x] W fun e w' => e = .returned (.int .i64 16) ∧ W = w' := by
  have hc := right_R h (i : Int) ht.1
  rw [show refRight rows (i : Int) = true by unfold refRight; rw [if_pos (by omega), Int.toNat_natCast, hr]; rfl] at hc
  have HC := Lib.hid hc
  have HFi := Lib.hid (first_R h ht hp)
  obtain ⟨i0, hi0, hz0, hz1, hz2⟩ := info_parts infoI
  have HI := Lib.hid (And.intro hi0 (And.intro hz0 (And.intro hz1 hz2)))
  obtain ⟨c0, c1, c2, f0⟩ := h.cells
  obtain ⟨g, cap, hv, hgY, hg, x0, x1, x2, fr⟩ := h.row hr
  rw [hv] at c0
  have hi := (List.getElem?_eq_some_iff.1 hr).1
  have hn' : (rows.length : Int) ≤ 100 := by have := ht.1; omega
  have hi' : (i : Int) < (rows.length : Int) := by omega
  have h1 : ¬ (i : Int) < 0 := by omega
  obtain ⟨hps, hls⟩ := ht.2 _ (List.mem_of_getElem? hr)
  have hps' : (ps.length : Int) ≤ 256 := by simp at hps; omega
  have hls' : (l.length : Int) ≤ 1000 := by simp at hls; omega
  clear hps hls
  obtain ⟨AL, cL, hLv⟩ := h.lForm hr
  obtain ⟨AP, cP, hPv⟩ := h.pForm hr
  simp only at hLv hPv
  rw [hLv] at x0
  rw [hPv] at x1
  have q0 : ¬ z = 0 := by omega
  have q1 : ¬ (z : Int) = 0 := by omega
  obtain ⟨a0, ha0⟩ : ∃ a0, a0 = l.length % z := ⟨_, rfl⟩
  have q2 : Int.tmod (l.length : Int) (z : Int) = (a0 : Int) := by rw [ha0]; rfl
  have q3 : (a0 : Int) ≤ 1000 := by have := Nat.mod_le l.length z; omega
  have fr0 := fr (i * 3)
  have fr1 := fr (i * 3 + 1)
  have hYlt0 : Y.r < W.heap.size := h.lt _ (by rw [h.rbox]; simp)
  have hGlt0 : g < W.heap.size := h.lt _ (by rw [hg]; simp)
  have hcr := count_R h (ps.getD k 0 : Int) ht
  obtain ⟨cn, hcn0⟩ : ∃ cn, cn = refCount rows (ps.getD k 0 : Int) := ⟨_, rfl⟩
  rw [← hcn0] at hcn hcr
  have hcn' : 1 < (cn : Int) := by omega
  have HCn := Lib.hid hcr
  have q4 : ¬ (a0 : Int) = 0 := by omega
  have hpo := h.p i _ hr
  rw [hPv] at hpo
  obtain ⟨gp, cp', ep, -, hcells⟩ := own_read hpo (by simp; omega)
  injection ep with ep1 _ ep3
  subst ep1
  subst ep3
  obtain ⟨pl, hpl⟩ : ∃ pl, pl = ps.getD k 0 := ⟨_, rfl⟩
  have y0 := hcells k (.int .i64 (pl : Int)) (by rw [hpl, List.getD_eq_getElem?_getD, List.getElem?_eq_getElem (show k < ps.length by omega)]; simp [ints, List.getElem?_eq_getElem (show k < ps.length by omega)])
  rw [← hpl] at HCn
  simp only [hk] at x1 hps'
  rw [hf] at HFi
  clear hcells hpo hcr hcn0 hpl hf
  have HX := Lib.hid (And.intro h (And.intro hr (And.intro hv (And.intro hgY (And.intro hg (And.intro hLv (And.intro hPv ha0)))))))
  clear h hr hv hg fr hc hi hi0 hz0 hz1 hz2 hLv hPv ha0
  go_enter Try.func35, Try.ntmps35
  go_wp2_with fail
  with_reducible refine Calls.mono HC.out ?_
  rintro e w1 ⟨rfl, rfl⟩
  go_wp2_with fail
  with_reducible refine Calls.mono HCn.out ?_
  rintro e w1 ⟨rfl, rfl⟩
  go_wp2_with fail
  with_reducible refine Calls.mono HFi.out ?_
  rintro e w1 ⟨rfl, rfl⟩
  go_wp2_with fail
  go_ret
  exact ⟨rfl, rfl⟩
theorem app_wrong_R (h : RefAt W ρ Y p z rows) (hn : rows.length ≤ 100) (id x : Int) (hw : refRight rows id = false) : Calls Try.prog 35 #[.pointer (some ⟨Y.r, 0, none⟩), .int .i64 id, .int .i64 x] W fun e w' => e = .returned (.int .i64 14) ∧ W = w' := by
  have hc := right_R h id hn
  rw [hw] at hc
  have HC := Lib.hid hc
  clear hc h
  go_enter Try.func35, Try.ntmps35
  go_wp2_with fail
  with_reducible refine Calls.mono HC.out ?_
  rintro e w1 ⟨rfl, rfl⟩
  go_wp2_with fail
  go_ret
  exact ⟨rfl, rfl⟩
theorem close_wrong_R (h : RefAt W ρ Y p z rows) (hn : rows.length ≤ 100) (id : Int) (hw : refRight rows id = false) : Calls Try.prog 37 #[.pointer (some ⟨Y.r, 0, none⟩), .int .i64 id] W fun e w' => e = .returned (.int .i64 14) ∧ W = w' := by
  have hc := right_R h id hn
  rw [hw] at hc
  have HC := Lib.hid hc
  clear hc h
  go_enter Try.func37, Try.ntmps37
  go_wp2_with fail
  with_reducible refine Calls.mono HC.out ?_
  rintro e w1 ⟨rfl, rfl⟩
  go_wp2_with fail
  go_ret
  exact ⟨rfl, rfl⟩
theorem share_wrong_R (h : RefAt W ρ Y p z rows) (hn : rows.length ≤ 100) (id n : Int) (hw : refRight rows id = false) : Calls Try.prog 36 #[.pointer (some ⟨Y.r, 0, none⟩), .int .i64 id, .int .i64 n] W fun e w' => e = .returned (.tuple #[.int .i64 0, .int .i64 14]) ∧ W = w' := by
  have hc := right_R h id hn
  rw [hw] at hc
  have HC := Lib.hid hc
  clear hc h
  go_enter Try.func36, Try.ntmps36
  go_wp2_with fail
  with_reducible refine Calls.mono HC.out ?_
  rintro e w1 ⟨rfl, rfl⟩
  go_wp2_with fail
  go_ret2
  exact ⟨rfl, rfl⟩
theorem share_range_R (h : RefAt W ρ Y p z rows) (ht : Tame rows) {i : Nat} {l : List Int} {ps : List Nat} (hr : rows[i]? = some ⟨l, ps, true⟩) (n : Int) (hw : n < 0 ∨ (l.length : Int) < n) : Calls Try.prog 36 #[.pointer (some ⟨Y.r, 0, none⟩), .int .i64 (i : Int), .int .i64 n] W fun e w' => e = .returned (.tuple #[.int .i64 0, .int .i64 10]) ∧ W = w' := by
  have hc := right_R h (i : Int) ht.1
  rw [show refRight rows (i : Int) = true by unfold refRight; rw [if_pos (by omega), Int.toNat_natCast, hr]; rfl] at hc
  have HC := Lib.hid hc
  obtain ⟨c0, c1, c2, f0⟩ := h.cells
  obtain ⟨g, cap, hv, hgY, hg, x0, x1, x2, fr⟩ := h.row hr
  rw [hv] at c0
  have hi := (List.getElem?_eq_some_iff.1 hr).1
  have hn' : (rows.length : Int) ≤ 100 := by have := ht.1; omega
  have hi' : (i : Int) < (rows.length : Int) := by omega
  have h1 : ¬ (i : Int) < 0 := by omega
  obtain ⟨AL, cL, hLv⟩ := h.lForm hr
  simp only at hLv
  rw [hLv] at x0
  have hls' : (l.length : Int) ≤ 1000 := by have := (ht.2 _ (List.mem_of_getElem? hr)).2; simp at this; omega
  clear hc h hr hv hg fr hLv hi ht
  by_cases h0 : n < 0
  · clear hw
    go_enter Try.func36, Try.ntmps36
    go_wp2_with fail
    with_reducible refine Calls.mono HC.out ?_
    rintro e w1 ⟨rfl, rfl⟩
    go_wp2_with fail
    go_ret2
    exact ⟨rfl, rfl⟩
  · have hw' : (l.length : Int) < n := by omega
    clear hw
    go_enter Try.func36, Try.ntmps36
    go_wp2_with fail
    with_reducible refine Calls.mono HC.out ?_
    rintro e w1 ⟨rfl, rfl⟩
    go_wp2_with fail
    go_ret2
    exact ⟨rfl, rfl⟩
end
end Go.Proofs.Ytackjeckafoojaa.Kv
