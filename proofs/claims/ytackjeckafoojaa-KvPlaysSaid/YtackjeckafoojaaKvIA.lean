/- A pool of things of type int: a thing appended. -/
import Derived.Test.YtackjeckafoojaaKvIR
import Derived.Test.YtackjeckafoojaaKvIT
namespace Go.Proofs.Ytackjeckafoojaa.KvI
open Go.RowKit Kv
attribute [local go_sem ↓] Kit.execOp_call_slot
attribute [local go_sem] Kit.callSlot_func
variable {W : World} {ρ : Nat → Option Role} {L : Lay} {s : PSt Int}

theorem append_none (h : PoolAt K enc W ρ L s) {id : Int} (x : Int) (hf : s.find id = none) : Calls Try.prog 15 #[.pointer (some ⟨L.g, 0, none⟩), .int .i64 id, enc x] W fun e w' => e = .returned (.int .i64 14) ∧ W = w' := by
  have hc := find_any h id
  rw [hf] at hc
  simp only [Option.isSome_none, Bool.false_eq_true, if_false] at hc
  have HC := Lib.hid hc
  clear hc h hf
  go_enter Try.func15, Try.ntmps15
  go_wp2_with fail
  with_reducible refine Calls.mono HC.out ?_
  rintro e w1 ⟨rfl, rfl⟩
  go_wp2_with fail
  go_ret
  exact ⟨rfl, rfl⟩

set_option maxRecDepth 100000 in
set_option maxHeartbeats 2000000 in
/-- The last page is the row's alone, and has room. -/
theorem append_own (h : PoolAt K enc W ρ L s) {id : Nat} {qs : List Nat} {n k : Nat} (x : Int) (hr : s.row id = some (qs, n)) (hk : qs.length = k + 1) {o : Nat} (ho : o < s.pages.length) (hq : qs.getD (qs.length - 1) 0 = o) {a : Nat} (ha : a = n % s.size) (ha0 : 0 < a) (hal : a ≤ (s.lst o).length) (hll : (s.lst o).length ≤ 64)
    (hc1 : s.cnt o ≤ 1) (hn : n ≤ 16384) (hsz : 1 ≤ s.size ∧ s.size ≤ 64) (hkl : k ≤ 1000) (hnp : s.pages.length ≤ 256) :
    Calls Try.prog 15 #[.pointer (some ⟨L.g, 0, none⟩), .int .i64 (id : Int), enc x] W fun e w' => e = .returned (.int .i64 0) ∧ Step K enc W ρ L (s.put id qs n x) w' := by
  have hff : s.find (id : Int) = some (qs, n) := by unfold PSt.find; rw [if_pos (by omega)]; exact hr
  have hc := find_any h (id : Int)
  rw [hff] at hc
  simp only [Option.isSome_some, if_true, Int.toNat_natCast] at hc
  obtain ⟨c0, c1, c2, c3⟩ := h.cells
  obtain ⟨g1, cap1, hpv, r0, r1, x0, fr1, fg1, p0, p1, fp0, fp1, n1, n2, n3⟩ := h.tail_cells hr hk ho hq
  have hown := h.page o ho
  obtain ⟨g2, cap2, hlv, hg2, -⟩ := own_read hown (by omega)
  rw [hlv] at p0 hown
  have hcap2 : a ≤ cap2 := by
    rcases hown.2 with ⟨e, _⟩ | ⟨g', cap', cur, e, _, _, h4, _⟩
    · cases e
    · injection e with _ _ e; omega
  obtain ⟨i0, hi, hz0, hz1, hz2⟩ := info_parts infoE
  have HI := Lib.hid (And.intro hi (And.intro hz0 (And.intro hz1 hz2)))
  have q2 : Int.tmod (n : Int) (s.size : Int) = (a : Int) := by rw [ha]; rfl
  have hzs : ¬ s.size = 0 := by omega
  have hzs0 : (s.size : Int) ≠ 0 := by omega
  have hzs1 : ((s.size : Int) == 0) = false := by simp; omega
  have hae : ((a : Int) == 0) = false := by simp; omega
  have hai : ¬ (a : Int) = 0 := by omega
  have hcnt : ¬ 1 < s.cnt o := by omega
  have i1 : (0 : Int) ≤ (k : Int) := by omega
  have i2 : (k : Int) < (k : Int) + 1 := by omega
  have i3 : (0 : Int) ≤ (o : Int) := by omega
  have i4 : (o : Int) < (s.pages.length : Int) := by omega
  have i5 : (0 : Int) ≤ (a : Int) := by omega
  have i6 : (a : Int) ≤ (cap2 : Int) := by omega
  have i7 : (n : Int) ≤ 16384 := by omega
  have i8 : (0 : Int) ≤ (n : Int) := by omega
  have i9 : (k : Int) ≤ 1000 := by omega
  have hbp : L.pb < W.heap.size := block_lt_of_cell p0
  have hbr : L.rb id < W.heap.size := block_lt_of_cell r0
  have hg2r : ρ g2 = some (.page o) := h.rpage o ho g2 (by rw [hlv]; rfl)
  have hnp2 : (Value.slice (some ⟨g2, 0, none⟩) a cap2).ownBlock ≠ some L.pb := by intro e; injection e with e; have := h.rpb; rw [← e] at this; simp only at this; rw [hg2r] at this; simp at this
  have hnr2 : (Value.slice (some ⟨g2, 0, none⟩) a cap2).ownBlock ≠ some (L.rb id) := by intro e; injection e with e; have := h.rrow _ _ hr; rw [← e] at this; simp only at this; rw [hg2r] at this; simp at this
  have HA := Lib.hid (And.intro (own_take hown a hal) (And.intro hal hll))
  have HC := Lib.hid (And.intro hc (And.intro h (And.intro hr (And.intro ho (And.intro hq hlv)))))
  have HD := Lib.hid ha
  clear hc h hr hff hpv hown hlv hi hz0 hz1 hz2 hll hal ha hq hg2 c2 c3 fp1 hsz hnp
  go_enter Try.func15, Try.ntmps15
  go_wp2_with fail
  with_reducible refine Calls.mono HC.out.1 ?_
  rintro e w1 ⟨rfl, rfl⟩
  go_wp2_with fail
  go_quiet (fail)
  go_wp2_with fail
  go_quiet (fail)
  go_wp2_with fail
  go_quiet (fail)
  go_wp2_with (at_builtin; refine wpList_append_own_at _ (by rfl) (.tmp 134) (.tmp 136) 42 (by rfl) 0 3 i0 _ 1 8 Try.underlying42 HI.out.1 HI.out.2.1 HI.out.2.2.1 HI.out.2.2.2 (by rfl) (by decide) _ a _ (by rfl) (by exact own_lit (W := W) rfl _ (HA.out.1)) _ 1 1 [enc x] (by rfl) (by rfl) (cell_one_new _ _ _) (by intro u hu; rw [List.mem_singleton] at hu; subst hu; exact enc_one _) (by unfold maxLen; have := HA.out.2; omega) (by have := HA.out.2; omega) (Nat.zero_le _) ?_; intro v' w9 hownN hgrow _ hat; obtain ⟨A', cp', rfl⟩ := own_form hownN; have hgk := fun b hb hne => grown_keep (W := W) (by rfl) hgrow (b := b) hb hne; have e0 := (World.cell?_of_block (a := ⟨L.pb, o * 2, none⟩) (hgk _ hbp hnp2)).trans p0; have e1 := (World.cell?_of_block (a := ⟨L.rb id, 1, none⟩) (hgk _ hbr hnr2)).trans r1; have e2 := (World.frozen?_of_block (a := ⟨L.pb, o * 2, none⟩) (hgk _ hbp hnp2)).trans fp0; have e3 := (World.frozen?_of_block (a := ⟨L.rb id, 1, none⟩) (hgk _ hbr hnr2)).trans fr1; have HO := Lib.hid (And.intro hownN (And.intro hgrow hat)); clear hownN hgrow hat hgk)
  go_ret
  have hT := HC.out.2.1.tail HC.out.2.2.1 HC.out.2.2.2.1 HC.out.2.2.2.2.1 (.slice (some ⟨g2, 0, none⟩) a cap2) (fun g hg => by rw [HC.out.2.2.2.2.2]; exact hg) (below_lit (W := W) (w0 := W.drewN _) rfl rfl rfl rfl _) HO.out.2.1 (.slice A' (a + 1) cp') HO.out.2.2 x _ (by
    have hl2 : ((s.lst o).take (n % s.size) ++ [x]).length = a + 1 := by rw [List.length_append, List.length_take, ← HD.out]; have := HA.out.2.1; simp; omega
    have h3 := HO.out.1
    rw [← List.map_take, HD.out] at h3
    rw [hl2, List.map_append, HD.out]
    exact h3) rfl
  exact ⟨rfl, hT⟩

set_option maxRecDepth 100000 in
/-- A page is wanted, and there is none. -/
theorem append_full (h : PoolAt K enc W ρ L s) {id : Nat} {qs : List Nat} {n : Nat} (x : Int) (hr : s.row id = some (qs, n)) (ha : n % s.size = 0) (hf : s.first = none) (hn : n ≤ 16384) (hsz : 1 ≤ s.size ∧ s.size ≤ 64) (hkl : qs.length ≤ 1000) (hnp : s.pages.length ≤ 256) :
    Calls Try.prog 15 #[.pointer (some ⟨L.g, 0, none⟩), .int .i64 (id : Int), enc x] W fun e w' => e = .returned (.int .i64 16) ∧ Step K enc W ρ L s w' := by
  have hff : s.find (id : Int) = some (qs, n) := by unfold PSt.find; rw [if_pos (by omega)]; exact hr
  have hc := find_any h (id : Int)
  rw [hff] at hc
  simp only [Option.isSome_some, if_true, Int.toNat_natCast] at hc
  obtain ⟨c0, c1, c2, c3⟩ := h.cells
  obtain ⟨r0, r1⟩ := h.rowCell hr
  obtain ⟨A, cp, hpv⟩ := own_form (h.row _ _ _ hr).2
  rw [hpv] at r0
  have q2 : Int.tmod (n : Int) (s.size : Int) = 0 := by rw [show Int.tmod (n : Int) (s.size : Int) = ((n % s.size : Nat) : Int) from rfl, ha]; rfl
  have z1 : ¬ s.size = 0 := by omega
  have z2 : (s.size : Int) ≠ 0 := by omega
  have z3 : ((s.size : Int) == 0) = false := by simp; omega
  have i7 : (n : Int) ≤ 16384 := by omega
  have i8 : (0 : Int) ≤ (n : Int) := by omega
  have HC := Lib.hid (And.intro hc (And.intro h (And.intro hf hnp)))
  clear hc h hr hff hpv hf hsz hnp c0 c2 c3
  go_enter Try.func15, Try.ntmps15
  go_wp2_with fail
  with_reducible refine Calls.mono HC.out.1 ?_
  rintro e w1 ⟨rfl, rfl⟩
  go_wp2_with fail
  go_quiet (fail)
  go_wp2_with fail
  with_reducible refine Calls.mono (take_none (HC.out.2.1.drewN _) HC.out.2.2.2 _ HC.out.2.2.1) ?_
  rintro e w2 ⟨rfl, hb⟩
  have HB := Lib.hid hb
  clear hb
  go_wp2_with fail
  go_ret
  exact ⟨rfl, Step.below HC.out.2.1 (below_undrewN HB.out)⟩

set_option maxRecDepth 100000 in
set_option maxHeartbeats 2000000 in
/-- The last page is shared, and there is no free one. -/
theorem append_stuck (h : PoolAt K enc W ρ L s) {id : Nat} {qs : List Nat} {n k : Nat} (x : Int) (hr : s.row id = some (qs, n)) (hk : qs.length = k + 1) {o : Nat} (ho : o < s.pages.length) (hq : qs.getD (qs.length - 1) 0 = o) {a : Nat} (ha : a = n % s.size) (ha0 : 0 < a) (hal : a ≤ (s.lst o).length) (hll : (s.lst o).length ≤ 64)
    (hc1 : 1 < s.cnt o) (hf : s.first = none) (hn : n ≤ 16384) (hsz : 1 ≤ s.size ∧ s.size ≤ 64) (hkl : k ≤ 1000) (hnp : s.pages.length ≤ 256) :
    Calls Try.prog 15 #[.pointer (some ⟨L.g, 0, none⟩), .int .i64 (id : Int), enc x] W fun e w' => e = .returned (.int .i64 16) ∧ Step K enc W ρ L s w' := by
  have hff : s.find (id : Int) = some (qs, n) := by unfold PSt.find; rw [if_pos (by omega)]; exact hr
  have hc := find_any h (id : Int)
  rw [hff] at hc
  simp only [Option.isSome_some, if_true, Int.toNat_natCast] at hc
  obtain ⟨c0, c1, c2, c3⟩ := h.cells
  obtain ⟨g1, cap1, hpv, r0, r1, x0, fr1, fg1, p0, p1, fp0, fp1, n1, n2, n3⟩ := h.tail_cells hr hk ho hq
  have hown := h.page o ho
  obtain ⟨g2, cap2, hlv, hg2, -⟩ := own_read hown (by omega)
  rw [hlv] at p0 hown
  have hcap2 : a ≤ cap2 := by
    rcases hown.2 with ⟨e, _⟩ | ⟨g', cap', cur, e, _, _, h4, _⟩
    · cases e
    · injection e with _ _ e; omega
  have q2 : Int.tmod (n : Int) (s.size : Int) = (a : Int) := by rw [ha]; rfl
  have z1 : ¬ s.size = 0 := by omega
  have z2 : (s.size : Int) ≠ 0 := by omega
  have z3 : ((s.size : Int) == 0) = false := by simp; omega
  have hae : ((a : Int) == 0) = false := by simp; omega
  have hai : ¬ (a : Int) = 0 := by omega
  have i1 : (0 : Int) ≤ (k : Int) := by omega
  have i2 : (k : Int) < (k : Int) + 1 := by omega
  have i3 : (0 : Int) ≤ (o : Int) := by omega
  have i4 : (o : Int) < (s.pages.length : Int) := by omega
  have i5 : (0 : Int) ≤ (a : Int) := by omega
  have i6 : (a : Int) ≤ (cap2 : Int) := by omega
  have i7 : (n : Int) ≤ 16384 := by omega
  have i8 : (0 : Int) ≤ (n : Int) := by omega
  have i9 : (k : Int) ≤ 1000 := by omega
  have HC := Lib.hid (And.intro hc (And.intro h (And.intro hf hnp)))
  clear hc h hr hff hpv hown hlv hll hal ha hq hg2 c2 c3 fp1 hsz hnp ho hf
  go_enter Try.func15, Try.ntmps15
  go_wp2_with fail
  with_reducible refine Calls.mono HC.out.1 ?_
  rintro e w1 ⟨rfl, rfl⟩
  go_wp2_with fail
  go_quiet (fail)
  go_wp2_with fail
  go_quiet (fail)
  go_wp2_with fail
  with_reducible refine Calls.mono (take_none (HC.out.2.1.drewN _) HC.out.2.2.2 _ HC.out.2.2.1) ?_
  rintro e w2 ⟨rfl, hb⟩
  have HB := Lib.hid hb
  clear hb
  go_wp2_with fail
  go_ret
  exact ⟨rfl, Step.below HC.out.2.1 (below_undrewN HB.out)⟩

set_option maxRecDepth 100000 in
set_option maxHeartbeats 2000000 in
/-- A new page is taken. -/
theorem append_new (h : PoolAt K enc W ρ L s) {id : Nat} {qs : List Nat} {n : Nat} (x : Int) (hr : s.row id = some (qs, n)) (ha : n % s.size = 0) {o : Nat} (hf : s.first = some o) (hn : n ≤ 16384) (hsz : 1 ≤ s.size ∧ s.size ≤ 64) (hkl : qs.length ≤ 1000) (hnp : s.pages.length ≤ 256) :
    Calls Try.prog 15 #[.pointer (some ⟨L.g, 0, none⟩), .int .i64 (id : Int), enc x] W fun e w' => e = .returned (.int .i64 0) ∧ Step K enc W ρ L (((s.setPage o ([], 1)).setRow id (some (qs ++ [o], n))).put id (qs ++ [o]) n x) w' := by
  have hff : s.find (id : Int) = some (qs, n) := by unfold PSt.find; rw [if_pos (by omega)]; exact hr
  have hc := find_any h (id : Int)
  rw [hff] at hc
  simp only [Option.isSome_some, if_true, Int.toNat_natCast] at hc
  obtain ⟨c0, c1, c2, c3⟩ := h.cells
  obtain ⟨r0, r1⟩ := h.rowCell hr
  obtain ⟨A, cp, hpv⟩ := own_form (h.row _ _ _ hr).2
  rw [hpv] at r0
  have q2 : Int.tmod (n : Int) (s.size : Int) = 0 := by rw [show Int.tmod (n : Int) (s.size : Int) = ((n % s.size : Nat) : Int) from rfl, ha]; rfl
  have z1 : ¬ s.size = 0 := by omega
  have z2 : (s.size : Int) ≠ 0 := by omega
  have z3 : ((s.size : Int) == 0) = false := by simp; omega
  have i7 : (n : Int) ≤ 16384 := by omega
  have i8 : (0 : Int) ≤ (n : Int) := by omega
  have ho := (first_spec hf).1
  have hoI : ((o : Int) == -1) = false := by simp
  obtain ⟨i0, hi, hz0, hz1, hz2⟩ := info_parts infoE
  have HI := Lib.hid (And.intro hi (And.intro hz0 (And.intro hz1 hz2)))
  clear hi hz0 hz1 hz2
  obtain ⟨i0', hi, hz0, hz1, hz2⟩ := info_parts infoP
  have HJ := Lib.hid (And.intro hi (And.intro hz0 (And.intro hz1 hz2)))
  have HC := Lib.hid (And.intro hc (And.intro h (And.intro hf hnp)))
  have HR := Lib.hid (And.intro hr (And.intro hpv (And.intro ha ho)))
  clear hc h hr hff hpv hf hsz hnp c0 c2 c3 hi hz0 hz1 hz2 ho ha
  go_enter Try.func15, Try.ntmps15
  go_wp2_with fail
  with_reducible refine Calls.mono HC.out.1 ?_
  rintro e w1 ⟨rfl, rfl⟩
  go_wp2_with fail
  go_quiet (fail)
  go_wp2_with fail
  with_reducible refine Calls.mono (take_nil (HC.out.2.1.drewN _) HC.out.2.2.2 o HC.out.2.2.1) ?_
  rintro e w2 ⟨rfl, hP, hF⟩
  have hr1 : (s.setPage o ([], 1)).row id = some (qs, n) := HR.out.1
  clear r0 r1 c1
  have r0 : w2.cell? ⟨L.rb id, 0, none⟩ = some (.slice A qs.length cp) := by rw [← HR.out.2.1]; exact (hP.rowCell hr1).1
  have r1 : w2.cell? ⟨L.rb id, 1, none⟩ = some (.int .i64 (n : Int)) := (hP.rowCell hr1).2
  have hrow : w2.ownsRow 0 3 1 (.slice A qs.length cp) qs.length (ints qs) := by rw [← HR.out.2.1]; exact (hP.row _ _ _ hr1).2
  have fr0 : w2.frozen? ⟨L.rb id, 0, none⟩ = false := hP.rowFrozen hr1 0
  have hbr : L.rb id < w2.heap.size := block_lt_of_cell r0
  have hnr0 : (Value.slice A qs.length cp).ownBlock ≠ some (L.rb id) := by
    intro e
    have h1 := hP.rrowp id _ hr1 (L.rb id) (by show (L.pv id).ownBlock = _; rw [HR.out.2.1]; exact e)
    have h2 := hP.rrow id _ hr1
    simp only at h2
    rw [h1] at h2
    simp at h2
  have HP := Lib.hid (And.intro hP (And.intro hF hrow))
  clear hP hF hrow
  go_wp2_with (at_builtin; refine wpList_append_own_at _ (by rfl) (.tmp 50) (.tmp 52) 42 (by rfl) 0 3 i0' _ 1 8 Try.underlying42 HJ.out.1 HJ.out.2.1 HJ.out.2.2.1 HJ.out.2.2.2 (by rfl) (by decide) _ qs.length _ (by rfl) (by exact own_lit (W := w2) rfl _ (HP.out.2.2)) _ 1 1 [(.int .i64 (o : Int))] (by rfl) (by rfl) (cell_one_new _ _ _) (by intro u hu; rw [List.mem_singleton] at hu; subst hu; exact enc_one _) (by unfold maxLen; have := HP.out.2.2.1; omega) (by have := HP.out.2.2.1; omega) (Nat.zero_le _) ?_; intro v' w9 hownN hgrow _ hat; obtain ⟨A', cp', rfl⟩ := own_form hownN; have hgk := fun b hb hne => grown_keep (W := w2) (by rfl) hgrow (b := b) hb hne; have e4 := (World.cell?_of_block (a := ⟨L.rb id, 0, none⟩) (hgk _ hbr hnr0)).trans r0; have e5 := (World.frozen?_of_block (a := ⟨L.rb id, 0, none⟩) (hgk _ hbr hnr0)).trans fr0; have HO := Lib.hid (And.intro hownN (And.intro hgrow hat)); clear hownN hgrow hat hgk)
  obtain ⟨ρ4, L4, hP4, g4, pb4, rb4, lv4, pv4, hF4⟩ := HP.out.1.grewRow hr1 (below_lit (W := w2) (w0 := w2) rfl rfl rfl rfl _) (by have h9 := HO.out.2.1; rw [← HR.out.2.1] at h9; exact h9) (.slice A' (qs.length + 1) cp') (by have h9 := HO.out.2.2; rw [← HR.out.2.1] at h9; exact h9) (qs ++ [o]) (by have h9 := HO.out.1; simpa [ints] using h9)
  have hP5 : PoolAt K enc (w9.setCell ⟨L.rb id, 0, none⟩ (.slice A' (qs.length + 1) cp')) ρ4 L4 ((s.setPage o ([], 1)).setRow id (some (qs ++ [o], n))) := hP4
  have hF5 : Fr w2 ρ (w9.setCell ⟨L.rb id, 0, none⟩ (.slice A' (qs.length + 1) cp')) ρ4 := hF4
  clear hP4 hF4
  obtain ⟨w4, hw4⟩ : ∃ w4, w4 = w9.setCell ⟨L.rb id, 0, none⟩ (.slice A' (qs.length + 1) cp') := ⟨_, rfl⟩
  rw [← hw4] at hP5 hF5 ⊢
  have hlt := row_lt hr1
  have hr4 : ((s.setPage o ([], 1)).setRow id (some (qs ++ [o], n))).row id = some (qs ++ [o], n) := setRow_same hlt _
  have hk4 : (qs ++ [o]).length = qs.length + 1 := by simp
  have hq4 : (qs ++ [o]).getD ((qs ++ [o]).length - 1) 0 = o := by rw [hk4, Nat.add_sub_cancel, List.getD_eq_getElem?_getD]; simp
  have hpl4 : ((s.setPage o ([], 1)).setRow id (some (qs ++ [o], n))).pages.length = s.pages.length := setPage_len o ([], 1)
  have ho4 : o < ((s.setPage o ([], 1)).setRow id (some (qs ++ [o], n))).pages.length := by rw [hpl4]; exact HR.out.2.2.2
  clear r0 r1 fr0 hbr hnr0 e4 e5 hw4
  obtain ⟨g1, cap1, -, r0, r1, x0, fr1, -, p0, -, fp0, -, n1, n2, n3⟩ := hP5.tail_cells hr4 hk4 ho4 hq4
  obtain ⟨c0, -, -, -⟩ := hP5.cells
  rw [rb4] at r0 r1 fr1 n1 n3
  rw [pb4] at p0 fp0 n1 n2
  rw [lv4] at p0
  rw [g4, pb4, hpl4] at c0
  simp only [if_true] at p0 fp0 n1 n2 n3 r0 r1 fr1 c0
  have hbp : L.pb < w4.heap.size := block_lt_of_cell p0
  have hbr : L.rb id < w4.heap.size := block_lt_of_cell r0
  have hnp2 : (Value.slice none 0 0).ownBlock ≠ some L.pb := by simp [Value.ownBlock]
  have hnr2 : (Value.slice none 0 0).ownBlock ≠ some (L.rb id) := by simp [Value.ownBlock]
  have i1 : (0 : Int) ≤ (qs.length : Int) := by omega
  have i2 : (qs.length : Int) < (qs.length : Int) + 1 := by omega
  have i3 : (0 : Int) ≤ (o : Int) := by omega
  have i4 : (o : Int) < (s.pages.length : Int) := by have := HR.out.2.2.2; omega
  have i9 : (qs.length : Int) ≤ 1000 := by omega
  have HT := Lib.hid (And.intro hP5 (And.intro ((((Fr.drewN _).trans HP.out.2.1).trans hF5)) (And.intro hr4 (And.intro hq4 ho4))))
  have HG := Lib.hid (And.intro g4 (And.intro pb4 rb4))
  clear hP5 hF5 hr4 hk4 hq4 hpl4 ho4 g4 pb4 rb4 lv4 pv4 hlt HO
  go_quiet (fail)
  go_wp2_with (at_builtin; refine wpList_append_own_at _ (by rfl) (.tmp 134) (.tmp 136) 42 (by rfl) 0 3 i0 _ 1 8 Try.underlying42 HI.out.1 HI.out.2.1 HI.out.2.2.1 HI.out.2.2.2 (by rfl) (by decide) _ 0 _ (by rfl) (by exact own_lit (W := w4) rfl _ (World.ownsRow_nil _ _ _ _)) _ 1 1 [enc x] (by rfl) (by rfl) (cell_one_new _ _ _) (by intro u hu; rw [List.mem_singleton] at hu; subst hu; exact enc_one _) (by unfold maxLen; have := HP.out.1; omega) (by have := HP.out.1; omega) (Nat.zero_le _) ?_; intro v' w9 hownN hgrow _ hat; obtain ⟨A', cp', rfl⟩ := own_form hownN; have hgk := fun b hb hne => grown_keep (W := w4) (by rfl) hgrow (b := b) hb hne; have e0 := (World.cell?_of_block (a := ⟨L.pb, o * 2, none⟩) (hgk _ hbp hnp2)).trans p0; have e1 := (World.cell?_of_block (a := ⟨L.rb id, 1, none⟩) (hgk _ hbr hnr2)).trans r1; have e2 := (World.frozen?_of_block (a := ⟨L.pb, o * 2, none⟩) (hgk _ hbp hnp2)).trans fp0; have e3 := (World.frozen?_of_block (a := ⟨L.rb id, 1, none⟩) (hgk _ hbr hnr2)).trans fr1; have HO := Lib.hid (And.intro hownN (And.intro hgrow hat)); clear hownN hgrow hat hgk)
  go_ret
  have hT := HT.out.1.tail HT.out.2.2.1 HT.out.2.2.2.2 HT.out.2.2.2.1 (.slice none 0 0) (fun g hg => by simp [Value.ownBlock] at hg) (below_lit (W := w4) (w0 := w4.drewN _) rfl rfl rfl rfl _) HO.out.2.1 (.slice A' (0 + 1) cp') HO.out.2.2 x _ (by
    have h3 := HO.out.1
    have e9 : ((((s.setPage o ([], 1)).setRow id (some (qs ++ [o], n))).lst o).take (n % ((s.setPage o ([], 1)).setRow id (some (qs ++ [o], n))).size) ++ [x]) = [x] := by
      rw [show n % ((s.setPage o ([], 1)).setRow id (some (qs ++ [o], n))).size = 0 from HR.out.2.2.1]; rfl
    rw [e9]
    exact h3) rfl
  rw [HG.out.2.1, HG.out.2.2] at hT
  exact ⟨rfl, Step.trans HT.out.2.1 HG.out.1 hT⟩

set_option maxRecDepth 100000 in
set_option maxHeartbeats 2000000 in
/-- The last page is shared: it is copied. -/
theorem append_copy (h : PoolAt K enc W ρ L s) {id : Nat} {qs : List Nat} {n k : Nat} (x : Int) (hr : s.row id = some (qs, n)) (hk : qs.length = k + 1) {o : Nat} (ho : o < s.pages.length) (hq : qs.getD (qs.length - 1) 0 = o) {a : Nat} (ha : a = n % s.size) (ha0 : 0 < a) (hal : a ≤ (s.lst o).length) (hll : (s.lst o).length ≤ 64)
    (hc1 : 1 < s.cnt o) (hcc : s.cnt o ≤ 100000) {u : Nat} (hf : s.first = some u) (hn : n ≤ 16384) (hsz : 1 ≤ s.size ∧ s.size ≤ 64) (hkl : k ≤ 1000) (hnp : s.pages.length ≤ 256) :
    Calls Try.prog 15 #[.pointer (some ⟨L.g, 0, none⟩), .int .i64 (id : Int), enc x] W fun e w' => e = .returned (.int .i64 0) ∧
      Step K enc W ρ L ((((s.setPage u ((s.lst o).take a, 1)).setPage o ((s.setPage u ((s.lst o).take a, 1)).lst o, (s.setPage u ((s.lst o).take a, 1)).cnt o - 1)).setRow id (some (qs.set k u, n))).put id (qs.set k u) n x) w' := by
  have hff : s.find (id : Int) = some (qs, n) := by unfold PSt.find; rw [if_pos (by omega)]; exact hr
  have hc := find_any h (id : Int)
  rw [hff] at hc
  simp only [Option.isSome_some, if_true, Int.toNat_natCast] at hc
  obtain ⟨c0, c1, c2, c3⟩ := h.cells
  obtain ⟨g1, cap1, hpv, r0, r1, x0, fr1, fg1, p0, p1, fp0, fp1, n1, n2, n3⟩ := h.tail_cells hr hk ho hq
  have hown := h.page o ho
  obtain ⟨g2, cap2, hlv, hg2, -⟩ := own_read hown (by omega)
  rw [hlv] at p0 hown
  have hcap2 : a ≤ cap2 := by
    rcases hown.2 with ⟨e, _⟩ | ⟨g', cap', cur, e, _, _, h4, _⟩
    · cases e
    · injection e with _ _ e; omega
  have q2 : Int.tmod (n : Int) (s.size : Int) = (a : Int) := by rw [ha]; rfl
  have z1 : ¬ s.size = 0 := by omega
  have z2 : (s.size : Int) ≠ 0 := by omega
  have z3 : ((s.size : Int) == 0) = false := by simp; omega
  have hae : ((a : Int) == 0) = false := by simp; omega
  have hai : ¬ (a : Int) = 0 := by omega
  have i1 : (0 : Int) ≤ (k : Int) := by omega
  have i2 : (k : Int) < (k : Int) + 1 := by omega
  have i3 : (0 : Int) ≤ (o : Int) := by omega
  have i4 : (o : Int) < (s.pages.length : Int) := by omega
  have i5 : (0 : Int) ≤ (a : Int) := by omega
  have i6 : (a : Int) ≤ (cap2 : Int) := by omega
  have i7 : (n : Int) ≤ 16384 := by omega
  have i8 : (0 : Int) ≤ (n : Int) := by omega
  have i9 : (k : Int) ≤ 1000 := by omega
  obtain ⟨hu, hu0⟩ := first_spec hf
  have hou : u ≠ o := by rintro rfl; omega
  have huI : ((u : Int) == -1) = false := by simp
  have j1 : (u : Int) < (s.pages.length : Int) := by omega
  have j2 : (0 : Int) ≤ (u : Int) := by omega
  obtain ⟨l, hl⟩ : ∃ l, l = (s.lst o).take a := ⟨_, rfl⟩
  have hla : l.length = a := by rw [hl, List.length_take]; omega
  have hol : W.ownsRow 0 3 1 (.slice (some ⟨g2, 0, none⟩) a cap2) l.length (l.map enc) := by
    have := own_take hown a hal
    rw [← List.map_take, ← hl] at this
    rw [hla]; exact this
  obtain ⟨i0, hi, hz0, hz1, hz2⟩ := info_parts infoE
  have HI := Lib.hid (And.intro hi (And.intro hz0 (And.intro hz1 hz2)))
  have hla64 : l.length ≤ 64 := by omega
  have ha64 : a ≤ 64 := by omega
  have HC := Lib.hid (And.intro hc (And.intro h (And.intro hf (And.intro hnp (And.intro hol hla64)))))
  have HR := Lib.hid (And.intro hr (And.intro hk (And.intro ho (And.intro hq (And.intro hu (And.intro hou (And.intro hla ha)))))))
  rw [← hl]
  clear hc h hr hff hpv hown hlv hll hal ha hq hg2 c2 c3 fp1 hsz hnp ho hf hol hla hk hl hu hi hz0 hz1 hz2 hla64
  go_enter Try.func15, Try.ntmps15
  go_wp2_with fail
  with_reducible refine Calls.mono HC.out.1 ?_
  rintro e w1 ⟨rfl, rfl⟩
  go_wp2_with fail
  go_quiet (fail)
  go_wp2_with fail
  go_quiet (fail)
  go_wp2_with fail
  with_reducible refine Calls.mono (take_some (HC.out.2.1.drewN _) HC.out.2.2.2.1 0 (.slice (some ⟨g2, 0, none⟩) a cap2) l (own_same HC.out.2.2.2.2.1 (fun _ _ => rfl)) HC.out.2.2.2.2.2 u HC.out.2.2.1) ?_
  rintro e w2 ⟨rfl, ρ', L', hT⟩
  have hr1 : (s.setPage u (l, 1)).row id = some (qs, n) := HR.out.1
  have ho1 : o < (s.setPage u (l, 1)).pages.length := by rw [setPage_len]; exact HR.out.2.2.1
  clear c0 c1 r0 r1 x0 fr1 fg1 p0 p1 fp0 n1 n2 n3
  obtain ⟨g3, cap3, hpv, r0, r1, x0, fr1, fg1, p0, p1, fp0, fp1, n1, n2, n3⟩ := hT.pool.tail_cells hr1 HR.out.2.1 ho1 HR.out.2.2.2.1
  obtain ⟨c0, -, -, -⟩ := hT.pool.cells
  have hcnt : (s.setPage u (l, 1)).cnt o = s.cnt o := setPage_cnt_other HR.out.2.2.2.2.2.1 _
  rw [hT.g, hT.pb, setPage_len] at c0
  rw [hT.pb] at p0 p1 fp0 fp1 n1 n2
  rw [hT.rb] at r0 r1 fr1 n1 n3
  rw [hcnt] at p1
  have HT := Lib.hid (And.intro hT (And.intro hr1 (And.intro ho1 (And.intro hcnt hpv))))
  clear hT hr1 ho1 hcnt hpv
  go_wp2_with fail
  have HL := Lib.hid (And.intro HT.out.1.g (And.intro HT.out.1.pb (And.intro HT.out.1.rb HT.out.1.pv)))
  have hP3 := HT.out.1.pool.count HT.out.2.2.1 ((s.setPage u (l, 1)).cnt o - 1)
  have hr3 : ((s.setPage u (l, 1)).setPage o ((s.setPage u (l, 1)).lst o, (s.setPage u (l, 1)).cnt o - 1)).row id = some (qs, n) := HR.out.1
  have hP5 := hP3.setRowp hr3 (g := g3) (cap := cap3) (by rw [HT.out.2.2.2.2, HR.out.2.1]) k u (by rw [HR.out.2.1]; omega)
  have hF5 : Fr w2 ρ' ((w2.setCell ⟨L'.pb, o * 2 + 1, none⟩ (.int .i64 ((s.setPage u (l, 1)).cnt o - 1))).setCell ⟨g3, k, none⟩ (.int .i64 (u : Int))) ρ' :=
    (Fr.setCell (W := w2) (o * 2 + 1) _ (by rw [HT.out.1.pool.rpb]; simp)).trans (Fr.setCell k _ (by rw [HT.out.1.pool.rrowp id _ HT.out.2.1 g3 (by rw [HT.out.2.2.2.2]; rfl)]; simp))
  rw [HL.out.2.1, HT.out.2.2.2.1] at hP5 hF5
  obtain ⟨w4, hw4⟩ : ∃ w4, w4 = (w2.setCell ⟨L.pb, o * 2 + 1, none⟩ (.int .i64 (s.cnt o - 1))).setCell ⟨g3, k, none⟩ (.int .i64 (u : Int)) := ⟨_, rfl⟩
  rw [← hw4] at hP5 hF5 ⊢
  obtain ⟨s4, hs4⟩ : ∃ s4, s4 = (((s.setPage u (l, 1)).setPage o ((s.setPage u (l, 1)).lst o, (s.setPage u (l, 1)).cnt o - 1)).setRow id (some (qs.set k u, n))) := ⟨_, rfl⟩
  rw [HT.out.2.2.2.1] at hs4
  rw [← hs4] at hP5
  have hlt := row_lt hr3
  have hr4 : s4.row id = some (qs.set k u, n) := by rw [hs4]; exact setRow_same (by rw [HT.out.2.2.2.1] at hlt; exact hlt) _
  have hk4 : (qs.set k u).length = k + 1 := by rw [List.length_set]; exact HR.out.2.1
  have hq4 : (qs.set k u).getD ((qs.set k u).length - 1) 0 = u := by rw [hk4, Nat.add_sub_cancel, List.getD_eq_getElem?_getD, List.getElem?_set_self (by rw [HR.out.2.1]; omega)]; rfl
  have hpl4 : s4.pages.length = s.pages.length := by rw [hs4]; show ((s.setPage u (l, 1)).setPage o _).pages.length = _; rw [setPage_len, setPage_len]
  have hu4 : u < s4.pages.length := by rw [hpl4]; exact HR.out.2.2.2.2.1
  have hls4 : s4.lst u = l := by
    rw [hs4]
    show ((s.setPage u (l, 1)).setPage o _).lst u = _
    rw [setPage_lst_other (Ne.symm HR.out.2.2.2.2.2.1), setPage_lst_same HR.out.2.2.2.2.1]
  have hsz4 : s4.size = s.size := by rw [hs4]; rfl
  clear r0 r1 x0 fr1 fg1 p0 p1 fp0 fp1 n1 n2 n3 c0 hw4 hP3 hr3
  obtain ⟨g4, cap4, -, r0, r1, x0, fr1, -, p0, -, fp0, -, n1, n2, n3⟩ := hP5.tail_cells hr4 hk4 hu4 hq4
  obtain ⟨c0, -, -, -⟩ := hP5.cells
  have hown4 := hP5.page u hu4
  rw [hls4] at hown4
  obtain ⟨g5, cap5, hlv, -, -⟩ := own_read hown4 (by rw [HR.out.2.2.2.2.2.2.1]; exact ha0)
  rw [HR.out.2.2.2.2.2.2.1] at hlv hown4
  rw [hlv] at p0 hown4
  have hcap5 : a ≤ cap5 := by
    rcases hown4.2 with ⟨e, _⟩ | ⟨g', cap', cur, e, _, _, h4, _⟩
    · cases e
    · injection e with _ _ e; omega
  have i6' : (a : Int) ≤ (cap5 : Int) := by omega
  have hg5r := hP5.rpage u hu4 g5 (by rw [hlv]; rfl)
  have hnp2 : (Value.slice (some ⟨g5, 0, none⟩) a cap5).ownBlock ≠ some L'.pb := by intro e; injection e with e; have := hP5.rpb; rw [← e] at this; simp only at this; rw [hg5r] at this; simp at this
  have hnr2 : (Value.slice (some ⟨g5, 0, none⟩) a cap5).ownBlock ≠ some (L'.rb id) := by intro e; injection e with e; have := hP5.rrow _ _ hr4; rw [← e] at this; simp only at this; rw [hg5r] at this; simp at this
  rw [HL.out.2.2.1] at r0 r1 fr1 n1 n3 hnr2
  rw [HL.out.2.1] at p0 fp0 n1 n2 hnp2
  rw [HL.out.1, HL.out.2.1, hpl4] at c0
  have hbp : L.pb < w4.heap.size := block_lt_of_cell p0
  have hbr : L.rb id < w4.heap.size := block_lt_of_cell r0
  have HV := Lib.hid (And.intro hP5 (And.intro (((((Fr.drewN _).trans HT.out.1.fr).trans hF5))) (And.intro hr4 (And.intro hq4 (And.intro hu4 (And.intro hlv (And.intro hls4 hsz4)))))))
  have HA := Lib.hid hown4
  have HS := Lib.hid hs4
  clear hP5 hF5 hr4 hk4 hq4 hpl4 hu4 hls4 hsz4 hown4 hlv hcap5 hg5r hlt hs4 HC
  go_quiet (fail)
  go_wp2_with (at_builtin; refine wpList_append_own_at _ (by rfl) (.tmp 134) (.tmp 136) 42 (by rfl) 0 3 i0 _ 1 8 Try.underlying42 HI.out.1 HI.out.2.1 HI.out.2.2.1 HI.out.2.2.2 (by rfl) (by decide) _ a _ (by rfl) (by exact own_lit (W := w4) rfl _ (HA.out)) _ 1 1 [enc x] (by rfl) (by rfl) (cell_one_new _ _ _) (by intro u hu; rw [List.mem_singleton] at hu; subst hu; exact enc_one _) (by unfold maxLen; have := ha64; omega) (by have := ha64; omega) (Nat.zero_le _) ?_; intro v' w9 hownN hgrow _ hat; obtain ⟨A', cp', rfl⟩ := own_form hownN; have hgk := fun b hb hne => grown_keep (W := w4) (by rfl) hgrow (b := b) hb hne; have e0 := (World.cell?_of_block (a := ⟨L.pb, u * 2, none⟩) (hgk _ hbp hnp2)).trans p0; have e1 := (World.cell?_of_block (a := ⟨L.rb id, 1, none⟩) (hgk _ hbr hnr2)).trans r1; have e2 := (World.frozen?_of_block (a := ⟨L.pb, u * 2, none⟩) (hgk _ hbp hnp2)).trans fp0; have e3 := (World.frozen?_of_block (a := ⟨L.rb id, 1, none⟩) (hgk _ hbr hnr2)).trans fr1; have HO := Lib.hid (And.intro hownN (And.intro hgrow hat)); clear hownN hgrow hat hgk)
  go_ret
  have hT := HV.out.1.tail HV.out.2.2.1 HV.out.2.2.2.2.1 HV.out.2.2.2.1 (.slice (some ⟨g5, 0, none⟩) a cap5) (fun g hg => by rw [HV.out.2.2.2.2.2.1]; exact hg) (below_lit (W := w4) (w0 := w4.drewN _) rfl rfl rfl rfl _) HO.out.2.1 (.slice A' (a + 1) cp') HO.out.2.2 x _ (by
    have h3 := HO.out.1
    have e9 : (s4.lst u).take (n % s4.size) ++ [x] = l ++ [x] := by
      rw [HV.out.2.2.2.2.2.2.1, HV.out.2.2.2.2.2.2.2, ← HR.out.2.2.2.2.2.2.2, List.take_of_length_le (by rw [HR.out.2.2.2.2.2.2.1]; exact Nat.le_refl _)]
    rw [e9, List.length_append, List.map_append, HR.out.2.2.2.2.2.2.1]
    exact h3) rfl
  rw [HL.out.2.1, HL.out.2.2.1] at hT
  rw [HT.out.2.2.2.1, ← HS.out]
  exact ⟨rfl, Step.trans HV.out.2.1 HL.out.1 hT⟩

theorem append_any (h : PoolAt K enc W ρ L s) (hi : Inv s) (id : Int) (x : Int) : Calls Try.prog 15 #[.pointer (some ⟨L.g, 0, none⟩), .int .i64 id, enc x] W fun e w' => e = .returned (.int .i64 (s.append id x).2) ∧ Step K enc W ρ L (s.append id x).1 w' := by
  unfold PSt.append
  cases hf : s.find id with
  | none => exact (append_none h x hf).mono fun e w' ⟨h1, h2⟩ => ⟨h1, by rw [← h2]; exact Step.same h⟩
  | some r =>
    obtain ⟨ps, n⟩ := r
    obtain ⟨h0, hr⟩ := find_row hf
    obtain ⟨j, rfl⟩ : ∃ k : Nat, id = (k : Int) := ⟨id.toNat, by omega⟩
    simp only [Int.toNat_natCast] at hr ⊢
    have hpl := hi.ps_len hr
    have hnb := hi.n_bound hr
    have hsz := hi.sz
    by_cases ha : n % s.size = 0
    · rw [if_pos ha]
      cases hfi : s.first with
      | none => exact append_full h x hr ha hfi hnb.2.2 hsz (by omega) hi.np.2
      | some u => exact append_new h x hr ha hfi hnb.2.2 hsz (by omega) hi.np.2
    · rw [if_neg ha]
      have hlast := Inv.last hi hr ha
      obtain ⟨k, hk, ho, hal⟩ := hlast
      have hlim := hi.lim (ps.getD (ps.length - 1) 0)
      have hcb := hi.cnt_bound (ps.getD (ps.length - 1) 0)
      by_cases hc : 1 < s.cnt (ps.getD (ps.length - 1) 0)
      · rw [if_pos hc]
        cases hfi : s.first with
        | none => exact append_stuck h x hr hk ho rfl rfl (by omega) hal (by omega) hc hfi hnb.2.2 hsz (by omega) hi.np.2
        | some u =>
          have := append_copy h x hr hk ho rfl rfl (by omega) hal (by omega) hc (by omega) hfi hnb.2.2 hsz (by omega) hi.np.2
          rw [show k = ps.length - 1 by omega] at this
          exact this
      · rw [if_neg hc]
        exact append_own h x hr hk ho rfl rfl (by omega) hal (by omega) (by omega) hnb.2.2 hsz (by omega) hi.np.2
end Go.Proofs.Ytackjeckafoojaa.KvI
