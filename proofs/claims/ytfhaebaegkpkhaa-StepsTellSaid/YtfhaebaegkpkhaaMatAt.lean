/- Where a model's matrices are: the look-up in a map whose seven entries are laid in whatever order. -/
import Derived.Test.YtfhaebaegkpkhaaModAt
set_option linter.unusedVariables false
set_option linter.unusedSimpArgs false
namespace Go.Proofs.Ytfhaebaegkpkhaa.Cfg
open Go.RowKit OwnS Byt QTail RevL
attribute [local go_sem ↓] Kit.execOp_call_slot
attribute [local go_sem] Kit.callSlot_func
def insIdx : List Nat := [4, 8, 12, 16, 20, 24, 28]
/-- The entry that number i lays: a kind, and how far from the layer's beginning its matrix is. -/
def insKind : Nat → Int | 4 => 3 | 8 => 4 | 12 => 5 | 16 => 6 | 20 => 8 | 24 => 9 | _ => 10
def insOff : Nat → Nat | 4 => 1 | 8 => 4 | 12 => 7 | 16 => 10 | 20 => 14 | 24 => 17 | _ => 20
def insAt (g o i : Nat) : Int × Value := (insKind i, .pointer (some ⟨g, o + insOff i, none⟩))
theorem insKind_inj : ∀ i ∈ insIdx, ∀ j ∈ insIdx, insKind i = insKind j → i = j := by decide
structure InsInv (w0 : World) (mb g o : Nat) (rs : List Nat) (w : World) : Prop where
  below : Below mb w0 w
  map : ∃ f, IMap.At w mb f ∧ ∀ x, x ∈ f ↔ ∃ i ∈ insIdx, i ∉ rs ∧ x = insAt g o i
theorem InsInv.step {w0 w : World} {mb g o : Nat} {rs : List Nat} (h : InsInv w0 mb g o rs w) {i : Nat} (hi : i ∈ insIdx) (hr : i ∈ rs) (hn : rs.Nodup) :
    ∃ w', (Instr.mapUpdate 189 (.map (some mb)) (.int .i64 (insKind i)) (.pointer (some ⟨g, o + insOff i, none⟩))).run Try.prog w = .ok () w' ∧ InsInv w0 mb g o (rs.erase i) w' ∧ w'.heap.size = w.heap.size ∧ Below mb w w' := by
  obtain ⟨f, hf, hx⟩ := h.map
  obtain ⟨w', h1, h2, h3, h4⟩ := IMap.run_update_new w 189 _ _ Try.underlying189 Try.underlying3 hf (insKind i) (.pointer (some ⟨g, o + insOff i, none⟩)) (fun p hp e => by
    obtain ⟨j, hj, hjr, rfl⟩ := (hx p).1 hp
    exact hjr (by rw [insKind_inj j hj i hi e]; exact hr))
  have hb : Below mb w w' := ⟨h3.os, h3.tape, h3.output, h3.size, fun b hb => by
    by_cases hs : b < w.heap.size
    · exact h3.block b hs (fun e => by injection e with e; omega)
    · rw [Array.getElem?_eq_none (by omega), Array.getElem?_eq_none (by omega)]⟩
  refine ⟨w', h1, ⟨h.below.trans hb, _, h2, fun x => ?_⟩, h4, hb⟩
  rw [List.mem_append, List.mem_singleton, hx]
  constructor
  · rintro (⟨j, hj, hjr, rfl⟩ | rfl)
    · exact ⟨j, hj, fun h => hjr (List.mem_of_mem_erase h), rfl⟩
    · exact ⟨i, hi, hn.not_mem_erase, rfl⟩
  · rintro ⟨j, hj, hjr, rfl⟩
    by_cases hij : j = i
    · subst hij; exact .inr rfl
    · exact .inl ⟨j, hj, fun h => hjr ((List.mem_erase_of_ne hij).2 h), rfl⟩
theorem insKind_of : ∀ j ∈ insIdx, insKind j = 3 ∨ insKind j = 4 ∨ insKind j = 5 ∨ insKind j = 6 ∨ insKind j = 8 ∨ insKind j = 9 ∨ insKind j = 10 := by decide
theorem lay_mat {w : World} (M : Mod) (i : Int) (p : Lay × LayH) (hM : M.lay i = p.1) (hs : LaySees w p.1 p.2) : ∀ j ∈ insIdx, ∃ A c, ((layC p).drop (insOff j)).take 3 = matC (M.mat (insKind j) i) (.slice A (M.mat (insKind j) i).l.length c) ∧ Ints w (.slice A (M.mat (insKind j) i).l.length c) (M.mat (insKind j) i).l := by
  intro j hj
  have key : ∀ (m : Mat) (v : Value), Ints w v m.l → ∃ A c, matC m v = matC m (.slice A m.l.length c) ∧ Ints w (.slice A m.l.length c) m.l := fun m v h => by
    obtain ⟨A, c, rfl⟩ := h.form
    exact ⟨A, c, rfl, h⟩
  have hc : j = 4 ∨ j = 8 ∨ j = 12 ∨ j = 16 ∨ j = 20 ∨ j = 24 ∨ j = 28 := by simpa [insIdx] using hj
  unfold Mod.mat
  rw [hM]
  rcases hc with rfl | rfl | rfl | rfl | rfl | rfl | rfl
  · exact key p.1.q _ hs.q
  · exact key p.1.k _ hs.k
  · exact key p.1.v _ hs.v
  · exact key p.1.o _ hs.o
  · exact key p.1.g _ hs.g
  · exact key p.1.u _ hs.u
  · exact key p.1.d _ hs.d
theorem insOff_le : ∀ j ∈ insIdx, insOff j + 3 ≤ 23 := by decide
set_option maxRecDepth 100000 in
set_option maxHeartbeats 4000000 in
theorem matrix_lay (W : World) (B : Nat) (M : Mod) (h : ModH) (H : List (Lay × LayH)) (x : WAt W B M h H) (j i : Nat) (hj : j ∈ insIdx) (rows cols : Int) (vec : Bool) (hi : i < M.ls.length) :
    Calls Try.prog 67 #[.pointer (some ⟨B, 0, none⟩), .agg #[.int .i64 (insKind j), .int .i64 (i : Int), .int .i64 rows, .int .i64 cols, .bool vec]] W (MatPost W (M.mat (insKind j) i)) := by
  obtain ⟨kind, hk⟩ : ∃ kind, kind = insKind j := ⟨_, rfl⟩
  rw [← hk]
  have hks : kind = 3 ∨ kind = 4 ∨ kind = 5 ∨ kind = 6 ∨ kind = 8 ∨ kind = 9 ∨ kind = 10 := by
    rw [hk]; exact insKind_of j hj
  have n1 : ¬ kind = 1 := by omega
  have n12 : ¬ kind = 12 := by omega
  have n11 : ¬ kind = 11 := by omega
  have n2 : ¬ kind = 2 := by omega
  have n7 : ¬ kind = 7 := by omega
  obtain ⟨w1, hw1⟩ : ∃ w1, w1 = W.alloc (.cells #[.int .i64 kind, .int .i64 (i : Int), .int .i64 rows, .int .i64 cols, .bool vec] 131) := ⟨_, rfl⟩
  have hb1 : Below W.heap.size W w1 := by rw [hw1]; exact (Below.refl _ _).alloc (Nat.le_refl _) _
  have hs1 : w1.heap.size = W.heap.size + 1 := by rw [hw1]; simp
  have x1 := x.new hb1
  have k0 : w1.cell? ⟨W.heap.size, 0, none⟩ = some (.int .i64 kind) := by rw [hw1, cell_of_row _ _ 0 _ _ _ (heap_alloc_new W _)]; rfl
  have k1 : w1.cell? ⟨W.heap.size, 1, none⟩ = some (.int .i64 (i : Int)) := by rw [hw1, cell_of_row _ _ 1 _ _ _ (heap_alloc_new W _)]; rfl
  have c11 : w1.cell? ⟨B, 11, none⟩ = some h.ls := by rw [cell_of_row _ _ 11 _ _ _ x1.blk]; rfl
  obtain ⟨p, g, o, cap, hp, hM, hls, hr, hsee, hg⟩ := x1.sees.layer hi
  obtain ⟨mA, mc, hm1, hm2⟩ := lay_mat M i p hM hsee j hj
  have hmr : w1.rangeAt g (o + i * 23 + insOff j) (matC (M.mat (insKind j) i) (.slice mA (M.mat (insKind j) i).l.length mc)) := by
    rw [← hm1]
    exact rangeAt_take (rangeAt_drop hr)
  rw [← hk] at hm2 hmr
  have HM := Lib.hid (And.intro hmr hm2)
  clear hm1 hm2 hmr
  rw [hls] at c11
  have hlt : (i : Int) < (M.ls.length : Int) := by omega
  have HS := Lib.hid (And.intro hsee (And.intro hb1 (And.intro hr (And.intro hM (And.intro hs1 hg)))))
  have HW1 := Lib.hid hw1
  have HK := Lib.hid (And.intro hk hks)
  have HJ := Lib.hid hj
  clear hsee hr hp hM hls x1 x hb1 hw1 hs1 hg hk hks hj
  go_enter Try.func67, Try.ntmps67
  go_upto_region 1 with fail
  rw [← HW1.out]
  go_upto_region 10 with fail
  go_quiet (fail)
  obtain ⟨w2, hw2⟩ : ∃ w2, w2 = w1.drewN nq := ⟨_, rfl⟩
  rw [← hw2]
  have hb2 : Below w1.heap.size w1 w2 := by rw [hw2]; exact below_drewN' (Below.refl _ _) _
  have hs2 : w2.heap.size = w1.heap.size := by rw [hw2]; rfl
  have k02 : w2.cell? ⟨W.heap.size, 0, none⟩ = some (.int .i64 kind) := by rw [hw2]; exact k0
  have H2 := Lib.hid (And.intro hb2 (And.intro hs2 k02))
  clear hw2 hb2 hs2 k02 k0 k1 c11
  go_wp2_with fail
  have hmm : ∀ w : World, (Instr.makeMap 189 none).run Try.prog w = .ok (.map (some w.heap.size)) (w.alloc (.map #[] 0)) := fun w => rfl
  have hz : W.heap.size < w2.heap.size := by have := H2.out.2.1; have := HS.out.2.2.2.2.1; omega
  have HZ := Lib.hid hz
  clear hz
  refine wp_region_mix0 (fun w' => w'.cell? ⟨W.heap.size, 0, none⟩ = some (.int .i64 kind)) (fun k => k == 31) [1, 2, 3, 5, 6, 7, 9, 10, 11, 13, 14, 15, 17, 18, 19, 21, 22, 23, 25, 26, 27, 30, 31, 0] 10 (by kernel_rfl) rfl (by kernel_rfl) (by kernel_rfl) (by kernel_rfl) H2.out.2.2 ?_
  intro I hNI F hF
  have f0 : ∀ j : I, (F j).cell? ⟨W.heap.size, 0, none⟩ = some (.int .i64 kind) := fun j => hF j
  clear hF
  simp only [pairOps, List.filterMap_cons, List.filterMap_nil, List.getElem?_cons_succ, List.getElem?_cons_zero, Option.map_some]
  repeat (first | (refine mixN_free rfl rfl ?_; go_big_quiet_step (fail); refine wpQuiet_nil ?_) | (refine mixN_need rfl rfl H2.out.2.2 ?_; go_big_quiet_step (fail); refine wpQuiet_nil ?_))
  refine mixN_step rfl ?_
  go_wp2_with fail
  obtain ⟨mb, hmb⟩ : ∃ mb, mb = w2.heap.size := ⟨_, rfl⟩
  obtain ⟨w3, hw3⟩ : ∃ w3, w3 = (w2.alloc (.map #[] 0)).drew := ⟨_, rfl⟩
  have hb3 : Below mb w2 w3 := by rw [hw3, hmb]; exact ((Below.refl _ _).alloc (Nat.le_refl _) _).drew
  have hI : InsInv w2 mb g (o + i * 23) insIdx w3 := by
    refine ⟨hb3, [], ⟨#[], 0, ?_, rfl⟩, fun x => ⟨fun h => (by cases h), fun ⟨j, hj, hn, _⟩ => absurd hj hn⟩⟩
    rw [hw3, hmb]
    exact heap_alloc_new w2 (.map #[] 0)
  have k3 : w3.cell? ⟨W.heap.size, 0, none⟩ = some (.int .i64 kind) := (hb3.cell (p := ⟨W.heap.size, 0, none⟩) (by rw [hmb]; exact HZ.out)).trans H2.out.2.2
  rw [← hmb, ← hw3]
  refine ⟨rfl, fun _ => k3, ?_⟩
  have HI := Lib.hid (And.intro hI hmb)
  clear hI hw3 hb3 k3 f0 hmm hmb
  simp only [mixN]
  refine anyN_set_at insIdx (InsInv w2 mb g (o + i * 23)) 3 10 rfl rfl (by kernel_rfl) (by kernel_rfl) HI.out.1 ?_ ?_
  · intro rs n w hnd hn hr hinv
    obtain ⟨w', hrun, hinv', hsz, hb'⟩ := hinv.step hn hr hnd
    have k' : w'.cell? ⟨W.heap.size, 0, none⟩ = some (.int .i64 kind) := ((hinv'.below).cell (p := ⟨W.heap.size, 0, none⟩) (by rw [HI.out.2]; exact HZ.out)).trans H2.out.2.2
    have HV := Lib.hid (And.intro hinv' k')
    clear hinv' hinv hb' k' hsz
    have hc : n = 4 ∨ n = 8 ∨ n = 12 ∨ n = 16 ∨ n = 20 ∨ n = 24 ∨ n = 28 := by simpa [insIdx] using hn
    clear hn hr hnd
    rcases hc with rfl | rfl | rfl | rfl | rfl | rfl | rfl
    all_goals
      simp only [insKind, insOff] at hrun
      refine ⟨_, (by simp only [List.getElem?_toArray, List.getElem?_cons_succ, List.getElem?_cons_zero]; rfl), ?_⟩
      go_wp2_with fail
      exact ⟨rfl, HV.out.2, rfl, HV.out.1⟩
  · intro w hinv
    obtain ⟨f, hf, hx⟩ := hinv.map
    have hz : ∀ w : World, (zeroValue 142).run Try.prog w = .ok (.pointer none) w := fun w => rfl
    have hlook := IMap.run_lookup1 w 189 _ _ (.pointer none) Try.underlying189 Try.underlying3 (hz w) hf kind
    have hv : ((IMap.findF f kind 0).map (·.2)) = some (.pointer (some ⟨g, o + i * 23 + insOff j, none⟩)) := by
      refine IMap.findF_one ((hx _).2 ⟨j, HJ.out, by simp, by rw [HK.out.1]; rfl⟩) (fun p' hp' e => ?_) 0
      obtain ⟨j', hj', -, rfl⟩ := (hx p').1 hp'
      have : j' = j := insKind_inj j' hj' j HJ.out (by rw [← HK.out.1]; exact e)
      subst this
      rfl
    rw [hv, Option.getD_some] at hlook
    have k' : w.cell? ⟨W.heap.size, 0, none⟩ = some (.int .i64 kind) := ((hinv.below).cell (p := ⟨W.heap.size, 0, none⟩) (by rw [HI.out.2]; exact HZ.out)).trans H2.out.2.2
    have HE := Lib.hid (And.intro hinv.below k')
    clear hinv hf hx hz hv k'
    refine anyN_mix_lit [29, 32, 33] 0 3 rfl (by kernel_rfl) (by kernel_rfl) (by kernel_rfl) HE.out.2 ?_
    intro I hNI F hF
    clear hF
    simp only [pairOps, List.filterMap_cons, List.filterMap_nil, List.getElem?_cons_succ, List.getElem?_cons_zero, Option.map_some]
    refine mixN_free rfl rfl ?_
    go_big_quiet_step (fail)
    refine wpQuiet_nil ?_
    refine mixN_step rfl ?_
    go_wp2_with fail
    refine ⟨rfl, fun _ => HE.out.2, ?_⟩
    refine mixN_free rfl rfl ?_
    go_big_quiet_step (fail)
    refine wpQuiet_nil ?_
    simp only [mixN]
    refine anyN_done (by kernel_rfl) ?_
    go_wp2_with fail
    go_ret
    have hbw : Below w1.heap.size w1 w := H2.out.1.trans (HE.out.1.mono (by rw [HI.out.2, H2.out.2.1]; exact Nat.le_refl _))
    exact ⟨g, o + i * 23 + insOff j, mA, mc, rfl, fun k u hk => (hbw.cell (p := ⟨g, o + i * 23 + insOff j + k, none⟩) HS.out.2.2.2.2.2).trans (HM.out.1 k u hk), HM.out.2.new hbw, below_chain HS.out.2.1 hbw⟩
end Go.Proofs.Ytfhaebaegkpkhaa.Cfg
