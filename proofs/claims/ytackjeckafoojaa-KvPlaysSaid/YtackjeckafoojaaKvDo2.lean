/- A call told by its number: walked. -/
import Derived.Test.YtackjeckafoojaaKvDo
namespace Go.Proofs.Ytackjeckafoojaa.KvI
open Go.RowKit Kv
attribute [local go_sem ↓] Kit.execOp_call_slot
attribute [local go_sem] Kit.callSlot_func
theorem infoRow : (Try.prog.info? 73).map (fun i => (i.zero, i.size, i.bytes)) = some (some (.agg #[.slice none 0 0, .slice none 0 0, .bool false]), 3, 56) := by kernel_rfl
section
variable {B G R D : Nat} {F : Nat → Prop} {w w' : World} {s : PSt Int}
theorem ref_open (W : World) (c0 : W.cell? ⟨R, 0, none⟩ = some (.slice none 0 0)) (f0 : W.frozen? ⟨R, 0, none⟩ = false) : Calls Try.prog 34 #[.pointer (some ⟨R, 0, none⟩)] W fun e w' => e = .returned (.tuple #[.int .i64 0, .int .i64 0]) ∧ W.grownBy w' (some R) := by
  have hg : ∀ (v : Value) (o o' : Obj), W.grownBy ((((W.setCell ⟨R, 0, none⟩ v).alloc o).alloc o').drew) (some R) := fun v o o' => by
    refine ⟨rfl, rfl, rfl, ?_, fun k hk hne => ?_⟩
    · simp [World.drew]; omega
    · show (((W.setCell ⟨R, 0, none⟩ v).alloc o).alloc o').heap[k]? = _
      have hs : k < (W.setCell ⟨R, 0, none⟩ v).heap.size := by simpa using hk
      rw [Below.heap_alloc _ _ _ (by simp; omega), Below.heap_alloc _ _ _ hs]
      exact Below.heap_setCell _ _ _ _ (fun e => hne (by rw [e]))
  have HG := Lib.hid hg
  have hR : R < W.heap.size := block_lt_of_cell c0
  clear hg
  go_enter Try.func34, Try.ntmps34
  go_wp2_with fail
  go_ret2
  exact ⟨rfl, HG.out _ _ _⟩

/-- Where a call told by its number stands: the pool, and blocks beside it that read as they did. -/
structure At (B G : Nat) (w0 : World) (F : Nat → Prop) (w : World) (s : PSt Int) : Prop where
  ap : Apart K enc B G w s F
  lt : ∀ k, F k → k < w.heap.size
  size : B ≤ w.heap.size
  below : Below B w0 w
theorem At.undrew {w0 : World} (h : At B G w0 F w s) (m : Nat) : At B G w0 F (w.drewN m) s := ⟨h.ap.below ⟨rfl, rfl, rfl, Nat.le_refl _, fun _ _ => rfl⟩, h.lt, h.size, h.below.trans ⟨rfl, rfl, rfl, Nat.le_refl _, fun _ _ => rfl⟩⟩
theorem At.call {w0 : World} (h : At B G w0 F w s) {s' : PSt Int} (h1 : Apart K enc B G w' s' F) (h2 : Below B w w') : At B G w0 F w' s' :=
  ⟨h1, fun k hk => Nat.lt_of_lt_of_le (h.lt k hk) h2.size, Nat.le_trans h.size h2.size, h.below.trans h2⟩
theorem at_append {w0 : World} (h : At B G w0 F w s) (hi : Inv s) (id x : Int) : Calls Try.prog 15 #[.pointer (some ⟨G, 0, none⟩), .int .i64 id, .int .i64 x] w fun e w' =>
    e = .returned (.int .i64 (s.append id x).2) ∧ At B G w0 F w' (s.append id x).1 ∧ ∀ k, F k → w'.heap[k]? = w.heap[k]? :=
  (apart_append h.ap hi h.size h.lt id x).mono fun e w' ⟨h1, h2, h3, h4⟩ => ⟨h1, h.call h2 h3, h4⟩
theorem at_open {w0 : World} (h : At B G w0 F w s) (hi : Inv s) : Calls Try.prog 14 #[.pointer (some ⟨G, 0, none⟩)] w fun e w' =>
    e = .returned (.tuple #[.int .i64 (s.open_ [] 0).2.1, .int .i64 (s.open_ [] 0).2.2]) ∧ At B G w0 F w' (s.open_ [] 0).1 ∧ ∀ k, F k → w'.heap[k]? = w.heap[k]? :=
  (apart_open h.ap hi h.size h.lt).mono fun e w' ⟨h1, h2, h3, h4⟩ => ⟨h1, h.call h2 h3, h4⟩
theorem at_share {w0 : World} (h : At B G w0 F w s) (hi : Inv s) (id n : Int) : Calls Try.prog 17 #[.pointer (some ⟨G, 0, none⟩), .int .i64 id, .int .i64 n] w fun e w' =>
    e = .returned (.tuple #[.int .i64 (s.share id n).2.1, .int .i64 (s.share id n).2.2]) ∧ At B G w0 F w' (s.share id n).1 ∧ ∀ k, F k → w'.heap[k]? = w.heap[k]? :=
  (apart_share h.ap hi h.size h.lt id n).mono fun e w' ⟨h1, h2, h3, h4⟩ => ⟨h1, h.call h2 h3, h4⟩
theorem at_close {w0 : World} (h : At B G w0 F w s) (hi : Inv s) (id : Int) : Calls Try.prog 12 #[.pointer (some ⟨G, 0, none⟩), .int .i64 id] w fun e w' =>
    e = .returned (.int .i64 (s.close id).2) ∧ At B G w0 F w' (s.close id).1 ∧ ∀ k, F k → w'.heap[k]? = w.heap[k]? :=
  (apart_close h.ap hi h.size h.lt id).mono fun e w' ⟨h1, h2, h3, h4⟩ => ⟨h1, h.call h2 h3, h4⟩
theorem cell_keep {a : Addr} (h : w'.heap[a.block]? = w.heap[a.block]?) {v : Value} (hc : w.cell? a = some v) : w'.cell? a = some v := (World.cell?_of_block h).trans hc

set_option maxRecDepth 100000 in
set_option maxHeartbeats 1000000 in
theorem does_run {w0 : World} (h : At B G w0 (fun k => k = R) w s) (hi : Inv s) (hBR : B ≤ R) (c0 : w.cell? ⟨R, 0, none⟩ = some (.slice none 0 0)) (f0 : w.frozen? ⟨R, 0, none⟩ = false) (ask id n : Int) :
    Calls Try.prog 11 #[.pointer (some ⟨G, 0, none⟩), .pointer (some ⟨R, 0, none⟩), .agg #[.int .i64 ask, .int .i64 id, .int .i64 n]] w fun e w' => (∃ b, e = .returned (.bool b)) ∧ At B G w0 (fun _ => False) w' (s.do_ ask id n) := by
  have hR : R < w.heap.size := block_lt_of_cell c0
  obtain ⟨w1, hw1⟩ : ∃ w1, w1 = w.alloc (.cells #[.int .i64 ask, .int .i64 id, .int .i64 n] 36) := ⟨_, rfl⟩
  obtain ⟨D, hD⟩ : ∃ D, D = w.heap.size := ⟨_, rfl⟩
  have hb1 : Below w.heap.size w w1 := by rw [hw1]; exact (Below.refl _ _).alloc (Nat.le_refl _) _
  have hs1 : w1.heap.size = w.heap.size + 1 := by rw [hw1]; simp
  have hA : At B G w0 (fun k => k = R ∨ k = D) w1 s := by
    refine ⟨((h.ap.none_ge h.size h.lt).weaken (fun k hk => ?_)).below hb1, ?_, ?_, h.below.trans (hb1.mono h.size)⟩
    · rcases hk with rfl | rfl
      · exact .inl rfl
      · exact .inr (by omega)
    · rintro k (rfl | rfl) <;> omega
    · have := h.size; omega
  have hbD : w1.heap[D]? = some (.cells #[.int .i64 ask, .int .i64 id, .int .i64 n] 36 (0, 0)) := by rw [hw1, hD]; exact heap_alloc_new _ _
  have d0 : w1.cell? ⟨D, 0, none⟩ = some (.int .i64 ask) := by simp [World.cell?, hbD]
  have d1 : w1.cell? ⟨D, 1, none⟩ = some (.int .i64 id) := by simp [World.cell?, hbD]
  have d2 : w1.cell? ⟨D, 2, none⟩ = some (.int .i64 n) := by simp [World.cell?, hbD]
  have c0 := cell_keep (a := ⟨R, 0, none⟩) (hb1.block R hR) c0
  have f0 := (World.frozen?_of_block (a := ⟨R, 0, none⟩) (hb1.block R hR)).trans f0
  have HA := Lib.hid hA
  have HW := Lib.hid (And.intro hw1 hD)
  clear h hA hb1 hbD hw1 hD hs1
  go_enter Try.func11, Try.ntmps11
  by_cases a0 : ask = 0
  · have e0 : s.do_ ask id n = (s.open_ [] 0).1 := by unfold PSt.do_; rw [if_pos a0]
    rw [e0]
    subst a0
    have HC := Lib.hid (at_open HA.out hi)
    go_wp2_with fail
    rw [← HW.out.1, ← HW.out.2]
    with_reducible refine Calls.mono HC.out ?_
    rintro e w2 ⟨rfl, h2, hk⟩
    have c0 := cell_keep (a := ⟨R, 0, none⟩) (hk R (.inl rfl)) c0
    have f0 := (World.frozen?_of_block (a := ⟨R, 0, none⟩) (hk R (.inl rfl))).trans f0
    have HO := Lib.hid (ref_open w2 c0 f0)
    have H2 := Lib.hid h2
    clear h2 hk
    generalize (s.open_ [] 0).2.1 = x1
    generalize (s.open_ [] 0).2.2 = x2
    go_wp2_with fail
    with_reducible refine Calls.mono HO.out ?_
    rintro e w3 ⟨rfl, hg⟩
    have H3 : At B G w0 (fun _ => False) w3 (s.open_ [] 0).1 := by
      have hb3 : Below B w2 w3 := ⟨hg.os, hg.tape, hg.output, hg.size, fun k hk => hg.block k (Nat.lt_of_lt_of_le hk H2.out.size) (by intro e; injection e with e; omega)⟩
      have := H2.out.ap.grew H2.out.size H2.out.lt (Below.refl _ _) hg (by intro g hg; injection hg with hg; exact .inl hg.symm)
      exact ⟨this.weaken (fun k hk => hk.elim), fun k hk => hk.elim, Nat.le_trans H2.out.size hg.size, H2.out.below.trans hb3⟩
    have H3 := Lib.hid H3
    clear hg
    go_wp2_with fail
    all_goals (go_ret; exact ⟨⟨_, rfl⟩, H3.out⟩)
  by_cases a1 : ask = 1
  · have e0 : s.do_ ask id n = (s.append id n).1 := by unfold PSt.do_; rw [if_neg a0, if_pos a1]
    rw [e0]
    subst a1
    clear e0 a0
    have HC := Lib.hid (fun W (hb : Below w1.heap.size w1 W) => at_append (w := W) ⟨HA.out.ap.below hb, fun k hk => Nat.lt_of_lt_of_le (HA.out.lt k hk) hb.size, Nat.le_trans HA.out.size hb.size, HA.out.below.trans (hb.mono HA.out.size)⟩ hi id n)
    generalize (s.append id n).2 = x1 at HC
    go_wp2_with fail
    rw [← HW.out.1, ← HW.out.2]
    go_region_held3 (fun w' => w'.cell? ⟨D, 1, none⟩ = some (.int .i64 id) ∧ w'.cell? ⟨D, 2, none⟩ = some (.int .i64 n)) (first | exact ⟨d1, d2⟩ | assumption | go_keep)
      (first | (go_at_call 15; refine Calls.mono (HC.out _ (below_undrew (Below.refl _ _))) ?_; rintro e w2 ⟨rfl, h2, hk⟩; have d1 := cell_keep (a := ⟨D, 1, none⟩) (hk D (.inr rfl)) d1; have d2 := cell_keep (a := ⟨D, 2, none⟩) (hk D (.inr rfl)) d2; have c0 := cell_keep (a := ⟨R, 0, none⟩) (hk R (.inl rfl)) c0; have H2 := Lib.hid h2; clear h2 hk) | (go_at_call 35; refine Calls.mono (ref_append _ id n (by simp [*])) ?_; rintro e w3 ⟨rfl, rfl⟩))
    all_goals (go_wp2_with fail; all_goals (go_ret; exact ⟨⟨_, rfl⟩, ⟨H2.out.ap.weaken (fun k hk => hk.elim), fun k hk => hk.elim, H2.out.size, H2.out.below⟩⟩))
  by_cases a2 : ask = 2
  · have e0 : s.do_ ask id n = (s.share id n).1 := by unfold PSt.do_; rw [if_neg a0, if_neg a1, if_pos a2]
    rw [e0]
    subst a2
    clear e0 a0 a1
    have HC := Lib.hid (at_share HA.out hi id n)
    go_wp2_with fail
    rw [← HW.out.1, ← HW.out.2]
    with_reducible refine Calls.mono HC.out ?_
    rintro e w2 ⟨rfl, h2, hk⟩
    have c0 := cell_keep (a := ⟨R, 0, none⟩) (hk R (.inl rfl)) c0
    have d1 := cell_keep (a := ⟨D, 1, none⟩) (hk D (.inr rfl)) d1
    have d2 := cell_keep (a := ⟨D, 2, none⟩) (hk D (.inr rfl)) d2
    have HO := Lib.hid (ref_share w2 id n c0)
    have H2 := Lib.hid h2
    clear h2 hk
    generalize (s.share id n).2.1 = x1
    generalize (s.share id n).2.2 = x2
    go_wp2_with fail
    with_reducible refine Calls.mono HO.out ?_
    rintro e w3 ⟨rfl, rfl⟩
    go_wp2_with fail
    all_goals (go_ret; exact ⟨⟨_, rfl⟩, ⟨H2.out.ap.weaken (fun k hk => hk.elim), fun k hk => hk.elim, H2.out.size, H2.out.below⟩⟩)
  by_cases a3 : ask = 3
  · have e0 : s.do_ ask id n = (s.close id).1 := by unfold PSt.do_; rw [if_neg a0, if_neg a1, if_neg a2, if_pos a3]
    rw [e0]
    subst a3
    clear e0 a0 a1 a2
    have HC := Lib.hid (fun W (hb : Below w1.heap.size w1 W) => at_close (w := W) ⟨HA.out.ap.below hb, fun k hk => Nat.lt_of_lt_of_le (HA.out.lt k hk) hb.size, Nat.le_trans HA.out.size hb.size, HA.out.below.trans (hb.mono HA.out.size)⟩ hi id)
    generalize (s.close id).2 = x1 at HC
    go_wp2_with fail
    rw [← HW.out.1, ← HW.out.2]
    go_region_held3 (fun w' => w'.cell? ⟨D, 1, none⟩ = some (.int .i64 id) ∧ w'.cell? ⟨D, 2, none⟩ = some (.int .i64 n)) (first | exact ⟨d1, d2⟩ | assumption | go_keep)
      (first | (go_at_call 12; refine Calls.mono (HC.out _ (below_undrew (Below.refl _ _))) ?_; rintro e w2 ⟨rfl, h2, hk⟩; have d1 := cell_keep (a := ⟨D, 1, none⟩) (hk D (.inr rfl)) d1; have d2 := cell_keep (a := ⟨D, 2, none⟩) (hk D (.inr rfl)) d2; have c0 := cell_keep (a := ⟨R, 0, none⟩) (hk R (.inl rfl)) c0; have H2 := Lib.hid h2; clear h2 hk) | (go_at_call 37; refine Calls.mono (ref_close _ id (by simp [*])) ?_; rintro e w3 ⟨rfl, rfl⟩))
    all_goals (go_wp2_with fail; all_goals (go_ret; exact ⟨⟨_, rfl⟩, ⟨H2.out.ap.weaken (fun k hk => hk.elim), fun k hk => hk.elim, H2.out.size, H2.out.below⟩⟩))
  · have e0 : s.do_ ask id n = s := by unfold PSt.do_; rw [if_neg a0, if_neg a1, if_neg a2, if_neg a3]
    rw [e0]
    have HC := Lib.hid (apart_get HA.out.ap hi id n)
    generalize (s.get 0 id n).1 = x1 at HC
    generalize (s.get 0 id n).2 = x2 at HC
    go_wp2_with fail
    rw [← HW.out.1, ← HW.out.2]
    with_reducible refine Calls.mono HC.out ?_
    rintro e w2 ⟨rfl, m, rfl⟩
    have HO := Lib.hid (ref_right (w1.drewN m) id c0)
    go_wp2_with fail
    with_reducible refine Calls.mono HO.out ?_
    rintro e w3 ⟨rfl, rfl⟩
    have H2 := Lib.hid (HA.out.undrew m)
    go_wp2_with fail
    all_goals (go_ret; exact ⟨⟨_, rfl⟩, ⟨H2.out.ap.weaken (fun k hk => hk.elim), fun k hk => hk.elim, H2.out.size, H2.out.below⟩⟩)
end
end Go.Proofs.Ytackjeckafoojaa.KvI
