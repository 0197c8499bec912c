/- steps.layer: a layer's steps of a place. Printed by genpld.py. -/
import Derived.Test.YtfhaebaegkpkhaaPlC
set_option linter.unusedVariables false
set_option linter.unusedSimpArgs false
namespace Go.Proofs.Ytfhaebaegkpkhaa.Pln
open Go.RowKit OwnS Byt Cfg Stp Mono QTail
attribute [local go_sem ↓] Kit.execOp_call_slot
attribute [local go_sem] Kit.callSlot_func
/-- A plan's cells. -/
def planC (p : Pln) (ctx K : Int) : List Value := [.int .i64 (p.vocab : Int), .int .i64 (p.dim : Int), .int .i64 (p.heads : Int), .int .i64 (p.layers : Int), .int .i64 ctx, .int .i64 (p.hidden : Int), .int .i64 (p.prompt : Int), .int .i64 (p.limit : Int), .int .i64 K]
def cfgC (p : Pln) (ctx : Int) : List Value := [.int .i64 (p.vocab : Int), .int .i64 (p.dim : Int), .int .i64 (p.heads : Int), .int .i64 (p.layers : Int), .int .i64 ctx, .int .i64 (p.hidden : Int)]
theorem field_cfg1 (w : World) (g : Nat) : (Instr.fieldAt 23 (.pointer (some ⟨g, 0, none⟩)) 1).run Try.prog w = .ok (.pointer (some ⟨g, 1, none⟩)) w := by
  simp [go_sem]
theorem field_cfg5 (w : World) (g : Nat) : (Instr.fieldAt 23 (.pointer (some ⟨g, 0, none⟩)) 5).run Try.prog w = .ok (.pointer (some ⟨g, 5, none⟩)) w := by
  simp [go_sem]
section
variable {l : List Oper} {a0 : Act} {A : (Nat → Value) → Act} {w0 : World} {Φ : List MPred} {i : Nat} {o : Oper}
theorem obl_field {x : Operand} {s : TypeId} {f : Nat} (hg : o.guard = none) (ho : o.op = .fieldAddr s x f) (h : ∀ us w, Pre l a0 w0 Φ i o us w → ∃ v, (Instr.fieldAt s ((A us).eval x) f).run Try.prog w = .ok v w ∧ (Φ.getD i .any).p w v) : obl Try.prog l a0 A w0 Φ i o :=
  obl_run hg fun us w hp => by
    obtain ⟨v, h1, h2⟩ := h us w hp
    refine ⟨v, w, ?_, h2, Below.refl _ _⟩
    unfold execOp
    simp only [ho, Sem.run_bind]
    rw [h1]
    rfl
theorem obl_add {x y : Operand} {n m : Int} (hg : o.guard = none) (ho : o.op = .binOp .add 3 x y 3) (h1 : -9223372036854775808 ≤ n + m) (h2 : n + m ≤ 9223372036854775807) (h : ∀ us w, Pre l a0 w0 Φ i o us w → (A us).eval x = .int .i64 n ∧ (A us).eval y = .int .i64 m ∧ (Φ.getD i .any).p w (.int .i64 (n + m))) : obl Try.prog l a0 A w0 Φ i o :=
  obl_run hg fun us w hp => by
    obtain ⟨hx, hy, h3⟩ := h us w hp
    refine ⟨_, w, ?_, h3, Below.refl _ _⟩
    unfold execOp
    simp only [ho, hx, hy]
    have hw : IntKind.i64.wrap (n + m) = n + m := by
      have h5 := IntWalk.wrap64_in (n + m) ⟨h1, h2⟩
      unfold wrap64 at h5
      have h6 : IntKind.i64.bits = 64 := rfl
      have h7 : IntKind.i64.signed = true := rfl
      simp [IntKind.wrap, h6, h7]
      split <;> omega
    simp [go_sem, hw]
end
theorem drewB (w : World) : Below w.heap.size w w.drew := ⟨rfl, rfl, rfl, Nat.le_refl _, fun _ _ => rfl⟩
theorem headsL_base (s : Stp) (n at_ : Nat) : headsL s (n + 1) at_ = headsL s n at_ ++ rowsL { s with head := (n : Int) } 9 (at_ + 1) ++ onesL { s with head := (n : Int) } [10, 11] := by rw [headsL_succ, List.append_assoc]
set_option maxRecDepth 100000 in
set_option maxHeartbeats 8000000 in
theorem layer_any (W : World) (p : Pln) (ctx K : Int) (at_ layer : Nat) (hd : p.dim ≤ 1000) (hh : p.heads ≤ 100) (hx : p.hidden ≤ 1000) (hat : at_ ≤ 900) :
    Calls Try.prog 109 #[.agg (planC p ctx K).toArray, .int .i64 (at_ : Int), .int .i64 (layer : Int)] W (SlcPost W (layerL p at_ layer)) := by
  unfold planC
  go_enter Try.func109, Try.ntmps109
  go_upto_region 3 with fail
  obtain ⟨w3, hw3⟩ : ∃ w3, w3 = ((W.alloc (.cells (planC p ctx K).toArray 62)).alloc (.cells (cfgC p ctx).toArray 23)).alloc (.cells (Stp.cells (⟨0, (at_ : Int), (layer : Int), 0, 0⟩ : Stp)).toArray 69) := ⟨_, rfl⟩
  change Code.wp _ _ _ _ (((W.alloc (.cells (planC p ctx K).toArray 62)).alloc (.cells (cfgC p ctx).toArray 23)).alloc (.cells (Stp.cells (⟨0, (at_ : Int), (layer : Int), 0, 0⟩ : Stp)).toArray 69))
  rw [← hw3]
  have hb3 : Below W.heap.size W w3 := by rw [hw3]; exact (((Below.refl _ _).alloc (Nat.le_refl _) _).alloc (by simp) _).alloc (by simp; omega) _
  have hz3 : w3.heap.size = W.heap.size + 3 := by rw [hw3]; simp
  have hst : w3.heap[W.heap.size + 2]? = some (.cells (Stp.cells (⟨0, (at_ : Int), (layer : Int), 0, 0⟩ : Stp)).toArray 69 (0, 0)) := by
    rw [hw3]
    have := heap_alloc_new ((W.alloc (.cells (planC p ctx K).toArray 62)).alloc (.cells (cfgC p ctx).toArray 23)) (.cells (Stp.cells (⟨0, (at_ : Int), (layer : Int), 0, 0⟩ : Stp)).toArray 69)
    simpa using this
  have hcf : w3.heap[W.heap.size + 1]? = some (.cells (cfgC p ctx).toArray 23 (0, 0)) := by
    rw [hw3, Below.heap_alloc _ _ _ (by simp)]
    have := heap_alloc_new (W.alloc (.cells (planC p ctx K).toArray 62)) (.cells (cfgC p ctx).toArray 23)
    simpa using this
  clear hw3
  have hs : ∀ w, Below w3.heap.size w3.drew w → w.heap[W.heap.size + 2]? = some (.cells (Stp.cells (⟨0, (at_ : Int), (layer : Int), 0, 0⟩ : Stp)).toArray 69 (0, 0)) := fun w hb => (hb.block _ (by omega)).trans hst
  have hc1 : ∀ w, Below w3.heap.size w3.drew w → w.cell? ⟨W.heap.size + 1, 1, none⟩ = some (.int .i64 (p.dim : Int)) := fun w hb => by rw [cell_of_row _ _ 1 _ _ _ ((hb.block _ (by omega)).trans hcf)]; rfl
  have hc5 : ∀ w, Below w3.heap.size w3.drew w → w.cell? ⟨W.heap.size + 1, 5, none⟩ = some (.int .i64 (p.hidden : Int)) := fun w hb => by rw [cell_of_row _ _ 5 _ _ _ ((hb.block _ (by omega)).trans hcf)]; rfl
  have hB : ∀ w, Below w3.heap.size w3.drew w → W.heap.size + 3 ≤ w.heap.size := fun w hb => by have := hb.size; have : w3.drew.heap.size = w3.heap.size := rfl; omega
  obtain ⟨L0, hL0⟩ : ∃ L0 : List Stp, L0 = [onesL (⟨0, (at_ : Int), (layer : Int), 0, 0⟩ : Stp) [2], rowsL (⟨0, (at_ : Int), (layer : Int), 0, 0⟩ : Stp) 3 p.dim, rowsL (⟨0, (at_ : Int), (layer : Int), 0, 0⟩ : Stp) 4 p.dim, rowsL (⟨0, (at_ : Int), (layer : Int), 0, 0⟩ : Stp) 5 p.dim, onesL (⟨0, (at_ : Int), (layer : Int), 0, 0⟩ : Stp) [6, 7, 8]].flatten := ⟨_, rfl⟩
  refine wp_region_mono [MPred.eq ((⟨0, (at_ : Int), (layer : Int), 0, 0⟩ : Stp)).val,
      MPred.ints [2],
      MPred.steps (W.heap.size + 3) (onesL (⟨0, (at_ : Int), (layer : Int), 0, 0⟩ : Stp) [2]),
      MPred.eq ((⟨0, (at_ : Int), (layer : Int), 0, 0⟩ : Stp)).val,
      MPred.eq (.pointer (some ⟨W.heap.size + 1, 1, none⟩)),
      MPred.eq (.int .i64 (p.dim : Int)),
      MPred.steps (W.heap.size + 3) (rowsL (⟨0, (at_ : Int), (layer : Int), 0, 0⟩ : Stp) 3 (p.dim)),
      MPred.eq ((⟨0, (at_ : Int), (layer : Int), 0, 0⟩ : Stp)).val,
      MPred.eq (.pointer (some ⟨W.heap.size + 1, 1, none⟩)),
      MPred.eq (.int .i64 (p.dim : Int)),
      MPred.steps (W.heap.size + 3) (rowsL (⟨0, (at_ : Int), (layer : Int), 0, 0⟩ : Stp) 4 (p.dim)),
      MPred.eq ((⟨0, (at_ : Int), (layer : Int), 0, 0⟩ : Stp)).val,
      MPred.eq (.pointer (some ⟨W.heap.size + 1, 1, none⟩)),
      MPred.eq (.int .i64 (p.dim : Int)),
      MPred.steps (W.heap.size + 3) (rowsL (⟨0, (at_ : Int), (layer : Int), 0, 0⟩ : Stp) 5 (p.dim)),
      MPred.eq ((⟨0, (at_ : Int), (layer : Int), 0, 0⟩ : Stp)).val,
      MPred.ints [6, 7, 8],
      MPred.steps (W.heap.size + 3) (onesL (⟨0, (at_ : Int), (layer : Int), 0, 0⟩ : Stp) [6, 7, 8]),
      MPred.sts [onesL (⟨0, (at_ : Int), (layer : Int), 0, 0⟩ : Stp) [2], rowsL (⟨0, (at_ : Int), (layer : Int), 0, 0⟩ : Stp) 3 p.dim, rowsL (⟨0, (at_ : Int), (layer : Int), 0, 0⟩ : Stp) 4 p.dim, rowsL (⟨0, (at_ : Int), (layer : Int), 0, 0⟩ : Stp) 5 p.dim, onesL (⟨0, (at_ : Int), (layer : Int), 0, 0⟩ : Stp) [6, 7, 8]],
      MPred.steps (W.heap.size + 3) ([onesL (⟨0, (at_ : Int), (layer : Int), 0, 0⟩ : Stp) [2], rowsL (⟨0, (at_ : Int), (layer : Int), 0, 0⟩ : Stp) 3 p.dim, rowsL (⟨0, (at_ : Int), (layer : Int), 0, 0⟩ : Stp) 4 p.dim, rowsL (⟨0, (at_ : Int), (layer : Int), 0, 0⟩ : Stp) 5 p.dim, onesL (⟨0, (at_ : Int), (layer : Int), 0, 0⟩ : Stp) [6, 7, 8]] : List (List Stp)).flatten,
      MPred.steps (W.heap.size + 3) L0] _ (by kernel_rfl) (by kernel_rfl) (fun us => by simp only [putAll, Act.put, List.setIfInBounds_toArray, List.set_cons_zero, List.set_cons_succ, Nat.reduceAdd]; rfl) ?_ ?_
  · exact (obls_cons (obl_load rfl rfl fun us w hp => ⟨⟨(W.heap.size + 2), 0, none⟩, _, rfl, load_step (hs w hp.1), rfl⟩)
      (obls_cons (obl_build rfl rfl fun us w hp => by
      obtain ⟨v, h1, h2⟩ := run_build_ints w [2] (by decide) (by decide) 1 rfl #[(0, .int .i64 2)] rfl
      exact ⟨#[(0, .int .i64 2)], v, _, by simp only [List.map_toArray, List.map_cons, List.map_nil]; rfl, h1, h2, (Below.refl _ _).alloc (Nat.le_refl _) _⟩)
      (obls_cons (obl_call rfl rfl Try.func108 rfl rfl fun us w hp => ⟨#[us 0, us 1], by simp only [List.map_toArray, List.map_cons, List.map_nil]; rfl, by
      rw [show us 0 = ((⟨0, (at_ : Int), (layer : Int), 0, 0⟩ : Stp)).val from hp.2.1 0 (by kernel_rfl)]
      exact (ones_any w (⟨0, (at_ : Int), (layer : Int), 0, 0⟩ : Stp) (us 1) [2] (hp.2.1 1 (by kernel_rfl)) (by decide)).mono fun e w' h => h.m (hB w hp.1)⟩)
      (obls_cons (obl_load rfl rfl fun us w hp => ⟨⟨(W.heap.size + 2), 0, none⟩, _, rfl, load_step (hs w hp.1), rfl⟩)
      (obls_cons (obl_field rfl rfl fun us w hp => ⟨_, field_cfg1 w _, rfl⟩)
      (obls_cons (obl_load rfl rfl fun us w hp => ⟨_, _, hp.2.1 4 (by kernel_rfl), load_int (hc1 w hp.1), rfl⟩)
      (obls_cons (obl_call rfl rfl Try.func111 rfl rfl fun us w hp => ⟨#[us 3, .int .i64 3, us 5], by simp only [List.map_toArray, List.map_cons, List.map_nil]; rfl, by
      rw [show us 3 = ((⟨0, (at_ : Int), (layer : Int), 0, 0⟩ : Stp)).val from hp.2.1 3 (by kernel_rfl), show us 5 = .int .i64 ((p.dim : Nat) : Int) from hp.2.1 5 (by kernel_rfl)]
      exact (rows_any w (⟨0, (at_ : Int), (layer : Int), 0, 0⟩ : Stp) 3 (p.dim) hd).mono fun e w' h => h.m (hB w hp.1)⟩)
      (obls_cons (obl_load rfl rfl fun us w hp => ⟨⟨(W.heap.size + 2), 0, none⟩, _, rfl, load_step (hs w hp.1), rfl⟩)
      (obls_cons (obl_field rfl rfl fun us w hp => ⟨_, field_cfg1 w _, rfl⟩)
      (obls_cons (obl_load rfl rfl fun us w hp => ⟨_, _, hp.2.1 8 (by kernel_rfl), load_int (hc1 w hp.1), rfl⟩)
      (obls_cons (obl_call rfl rfl Try.func111 rfl rfl fun us w hp => ⟨#[us 7, .int .i64 4, us 9], by simp only [List.map_toArray, List.map_cons, List.map_nil]; rfl, by
      rw [show us 7 = ((⟨0, (at_ : Int), (layer : Int), 0, 0⟩ : Stp)).val from hp.2.1 7 (by kernel_rfl), show us 9 = .int .i64 ((p.dim : Nat) : Int) from hp.2.1 9 (by kernel_rfl)]
      exact (rows_any w (⟨0, (at_ : Int), (layer : Int), 0, 0⟩ : Stp) 4 (p.dim) hd).mono fun e w' h => h.m (hB w hp.1)⟩)
      (obls_cons (obl_load rfl rfl fun us w hp => ⟨⟨(W.heap.size + 2), 0, none⟩, _, rfl, load_step (hs w hp.1), rfl⟩)
      (obls_cons (obl_field rfl rfl fun us w hp => ⟨_, field_cfg1 w _, rfl⟩)
      (obls_cons (obl_load rfl rfl fun us w hp => ⟨_, _, hp.2.1 12 (by kernel_rfl), load_int (hc1 w hp.1), rfl⟩)
      (obls_cons (obl_call rfl rfl Try.func111 rfl rfl fun us w hp => ⟨#[us 11, .int .i64 5, us 13], by simp only [List.map_toArray, List.map_cons, List.map_nil]; rfl, by
      rw [show us 11 = ((⟨0, (at_ : Int), (layer : Int), 0, 0⟩ : Stp)).val from hp.2.1 11 (by kernel_rfl), show us 13 = .int .i64 ((p.dim : Nat) : Int) from hp.2.1 13 (by kernel_rfl)]
      exact (rows_any w (⟨0, (at_ : Int), (layer : Int), 0, 0⟩ : Stp) 5 (p.dim) hd).mono fun e w' h => h.m (hB w hp.1)⟩)
      (obls_cons (obl_load rfl rfl fun us w hp => ⟨⟨(W.heap.size + 2), 0, none⟩, _, rfl, load_step (hs w hp.1), rfl⟩)
      (obls_cons (obl_build rfl rfl fun us w hp => by
      obtain ⟨v, h1, h2⟩ := run_build_ints w [6, 7, 8] (by decide) (by decide) 3 rfl #[(0, .int .i64 6), (1, .int .i64 7), (2, .int .i64 8)] rfl
      exact ⟨#[(0, .int .i64 6), (1, .int .i64 7), (2, .int .i64 8)], v, _, by simp only [List.map_toArray, List.map_cons, List.map_nil]; rfl, h1, h2, (Below.refl _ _).alloc (Nat.le_refl _) _⟩)
      (obls_cons (obl_call rfl rfl Try.func108 rfl rfl fun us w hp => ⟨#[us 15, us 16], by simp only [List.map_toArray, List.map_cons, List.map_nil]; rfl, by
      rw [show us 15 = ((⟨0, (at_ : Int), (layer : Int), 0, 0⟩ : Stp)).val from hp.2.1 15 (by kernel_rfl)]
      exact (ones_any w (⟨0, (at_ : Int), (layer : Int), 0, 0⟩ : Stp) (us 16) [6, 7, 8] (hp.2.1 16 (by kernel_rfl)) (by decide)).mono fun e w' h => h.m (hB w hp.1)⟩)
      (obls_cons (obl_build rfl rfl fun us w hp => by
      obtain ⟨v, h1, h2⟩ := run_build_sts w (W.heap.size + 3) [onesL (⟨0, (at_ : Int), (layer : Int), 0, 0⟩ : Stp) [2], rowsL (⟨0, (at_ : Int), (layer : Int), 0, 0⟩ : Stp) 3 p.dim, rowsL (⟨0, (at_ : Int), (layer : Int), 0, 0⟩ : Stp) 4 p.dim, rowsL (⟨0, (at_ : Int), (layer : Int), 0, 0⟩ : Stp) 5 p.dim, onesL (⟨0, (at_ : Int), (layer : Int), 0, 0⟩ : Stp) [6, 7, 8]] [us 2, us 6, us 10, us 14, us 17] rfl (fun i v l hv hl => by
        match i with
        | 0 => exact Option.some.inj hv ▸ Option.some.inj hl ▸ hp.2.1 2 (by kernel_rfl)
        | 1 => exact Option.some.inj hv ▸ Option.some.inj hl ▸ hp.2.1 6 (by kernel_rfl)
        | 2 => exact Option.some.inj hv ▸ Option.some.inj hl ▸ hp.2.1 10 (by kernel_rfl)
        | 3 => exact Option.some.inj hv ▸ Option.some.inj hl ▸ hp.2.1 14 (by kernel_rfl)
        | 4 => exact Option.some.inj hv ▸ Option.some.inj hl ▸ hp.2.1 17 (by kernel_rfl)
        | n + 5 => simp at hv) (by simp) (by simp) 5 rfl #[(0, us 2), (1, us 6), (2, us 10), (3, us 14), (4, us 17)] rfl
      exact ⟨#[(0, us 2), (1, us 6), (2, us 10), (3, us 14), (4, us 17)], v, _, by simp only [List.map_toArray, List.map_cons, List.map_nil]; rfl, h1, h2, (Below.refl _ _).alloc (Nat.le_refl _) _⟩)
      (obls_cons (obl_call rfl rfl Try.func110 rfl rfl fun us w hp => ⟨#[us 18], by simp only [List.map_toArray, List.map_cons, List.map_nil]; rfl, by
      obtain ⟨hs, h1⟩ := hp.2.1 18 (by kernel_rfl)
      exact (concat_any w (us 18) hs [onesL (⟨0, (at_ : Int), (layer : Int), 0, 0⟩ : Stp) [2], rowsL (⟨0, (at_ : Int), (layer : Int), 0, 0⟩ : Stp) 3 p.dim, rowsL (⟨0, (at_ : Int), (layer : Int), 0, 0⟩ : Stp) 4 p.dim, rowsL (⟨0, (at_ : Int), (layer : Int), 0, 0⟩ : Stp) 5 p.dim, onesL (⟨0, (at_ : Int), (layer : Int), 0, 0⟩ : Stp) [6, 7, 8]] h1 (by simp) (by simp [lens, onesL_length, rowsL_length]; omega)).mono fun e w' h => h.m (hB w hp.1)⟩)
      (obls_cons (obl_move rfl (.inr rfl) fun us w hp => by rw [hL0]; exact hp.2.1 19 (by kernel_rfl))
      obls_nil)))))))))))))))))))))
  intro us w4 hb4 hΦ
  obtain ⟨A4, c4, e4, ho4⟩ := hΦ 20 (by decide)
  have hl0 : L0.length ≤ 3100 := by rw [hL0]; simp [onesL_length, rowsL_length]; omega
  rw [e4] at ho4
  obtain ⟨n0, hn0⟩ : ∃ n0, n0 = L0.length := ⟨_, rfl⟩
  rw [← hn0] at e4 ho4
  rw [e4]
  have hst4 := (hb4.block _ (by omega)).trans hst
  have hcf4 := (hb4.block _ (by omega)).trans hcf
  have hbW4 := hb3.trans (hb4.mono (by omega))
  have hz4 := hb4.size
  have H4 := Lib.hid (And.intro ho4 (And.intro hst4 (And.intro hcf4 (And.intro hbW4 (And.intro hz4 (And.intro hL0 (And.intro hl0 hn0)))))))
  have c42 : w4.cell? ⟨W.heap.size + 1, 2, none⟩ = some (.int .i64 (p.heads : Int)) := by rw [cell_of_row _ _ 2 _ _ _ hcf4]; rfl
  have HZ := Lib.hid hz3
  clear ho4 hst4 hcf4 hbW4 hL0 hl0 hn0 hs hc1 hc5 hB hst hcf hb3 e4 hΦ hb4 hz4 hz3
  go_wp2_with fail
  go_loopw [9, 38] (fun v9 v38 wr => ∃ (h : Nat) (A : Option Addr) (c n : Nat), h ≤ p.heads ∧ v38 = .int .i64 h ∧ v9 = .slice A n c ∧ Hid (∃ (L : List Stp) (k : Int), L = L0 ++ headsL (⟨0, (at_ : Int), (layer : Int), 0, 0⟩ : Stp) h at_ ∧ n = L.length ∧ Owns wr (W.heap.size + 3) 5 (.slice A n c) n (flatS L) ∧ wr.heap[W.heap.size + 2]? = some (.cells (Stp.cells (⟨0, (at_ : Int), (layer : Int), k, 0⟩ : Stp)).toArray 69 (0, 0)) ∧ wr.heap[W.heap.size + 1]? = some (.cells (cfgC p ctx).toArray 23 (0, 0)) ∧ Below W.heap.size W wr ∧ W.heap.size + 3 ≤ wr.heap.size)) (fun _ v38 _ => p.heads - (intOf v38).toNat)
  case atStart => exact ⟨0, A4, c4, n0, Nat.zero_le _, rfl, rfl, L0, 0, by simp [headsL], H4.out.2.2.2.2.2.2.2, H4.out.1, H4.out.2.1, H4.out.2.2.1, H4.out.2.2.2.1, by have := H4.out.2.2.2.2.1; have := HZ.out; omega⟩
  case round =>
    obtain ⟨h, A, c, n, hi, rfl, rfl, hI⟩ := hrel
    obtain ⟨cur, k, hcur, hn, ho, hst, hcf, hbW, hz⟩ := hI.out
    have hlen : cur.length ≤ 3100 + 100 * 1000 := by
      rw [hcur, List.length_append, headsL_length]
      have h1 := H4.out.2.2.2.2.2.2.1
      have h2 : h * (at_ + 3) ≤ 100 * 1000 := Nat.mul_le_mul (by omega) (by omega)
      omega
    by_cases hlt : h < p.heads
    · have i1 : (h : Int) < (p.heads : Int) := by omega
      have i2 : (h : Int) ≤ 100 := by omega
      have d3 : wr.cell? ⟨W.heap.size + 2, 3, none⟩ = some (.int .i64 k) := by rw [cell_of_row _ _ 3 _ _ _ hst]; rfl
      have f3 := frozen_of_row _ _ 3 _ _ hst
      have HI := Lib.hid (And.intro hcur (And.intro hn (And.intro ho (And.intro hst (And.intro hcf (And.intro hbW (And.intro hz hlen)))))))
      clear hcur hn ho hst hcf hbW hz hlen hI c42
      go_upto_region 8 with fail
      obtain ⟨w5, hw5⟩ : ∃ w5, w5 = wr.setCell ⟨W.heap.size + 1 + 1, 3, none⟩ (.int .i64 (h : Int)) := ⟨_, rfl⟩
      rw [← hw5]
      obtain ⟨hcur, hn, ho, hst0, hcf0, hbW0, hz0, hlen⟩ := HI.out
      have hst : w5.heap[W.heap.size + 2]? = some (.cells (Stp.cells (⟨0, (at_ : Int), (layer : Int), (h : Int), 0⟩ : Stp)).toArray 69 (0, 0)) := by rw [hw5]; exact set_cells hst0 3 _
      have hcf : w5.heap[W.heap.size + 1]? = some (.cells (cfgC p ctx).toArray 23 (0, 0)) := by rw [hw5]; exact (Below.heap_setCell _ _ _ _ (by simp)).trans hcf0
      have hz : W.heap.size + 3 ≤ w5.heap.size := by rw [hw5]; simpa using hz0
      have hbW : Below W.heap.size W w5 := by rw [hw5]; exact hbW0.setCell (p := ⟨W.heap.size + 1 + 1, 3, none⟩) (by simp; omega) _
      have ho5 : Owns w5 (W.heap.size + 3) 5 (.slice A n c) n (flatS cur) := by rw [hw5]; exact ho.setCell (a := ⟨W.heap.size + 1 + 1, 3, none⟩) (fun b hb => by have := (ho.lt b hb).1; simp; omega) _
      have hs9 : stepsP (W.heap.size + 3) cur w5 (.slice A n c) := ⟨A, c, by rw [← hn], by rw [← hn]; exact ho5⟩
      clear hw5 hst0 hcf0 hbW0 hz0 ho d3 f3
      have hs : ∀ w, Below w5.heap.size w5.drew w → w.heap[W.heap.size + 2]? = some (.cells (Stp.cells (⟨0, (at_ : Int), (layer : Int), (h : Int), 0⟩ : Stp)).toArray 69 (0, 0)) := fun w hb => (hb.block _ (by omega)).trans hst
      have hc1 : ∀ w, Below w5.heap.size w5.drew w → w.cell? ⟨W.heap.size + 1, 1, none⟩ = some (.int .i64 (p.dim : Int)) := fun w hb => by rw [cell_of_row _ _ 1 _ _ _ ((hb.block _ (by omega)).trans hcf)]; rfl
      have hc5 : ∀ w, Below w5.heap.size w5.drew w → w.cell? ⟨W.heap.size + 1, 5, none⟩ = some (.int .i64 (p.hidden : Int)) := fun w hb => by rw [cell_of_row _ _ 5 _ _ _ ((hb.block _ (by omega)).trans hcf)]; rfl
      have hB : ∀ w, Below w5.heap.size w5.drew w → W.heap.size + 3 ≤ w.heap.size := fun w hb => by have := hb.size; have : w5.drew.heap.size = w5.heap.size := rfl; omega
      have h9 : ∀ w, Below w5.heap.size w5.drew w → stepsP (W.heap.size + 3) cur w (.slice A n c) := fun w hb => hs9.new ((drewB w5).trans hb)
      obtain ⟨L1, hL1⟩ : ∃ L1 : List Stp, L1 = [cur, rowsL (⟨0, (at_ : Int), (layer : Int), (h : Int), 0⟩ : Stp) 9 (at_ + 1), onesL (⟨0, (at_ : Int), (layer : Int), (h : Int), 0⟩ : Stp) [10, 11]].flatten := ⟨_, rfl⟩
      refine wp_region_mono [MPred.steps (W.heap.size + 3) cur,
          MPred.eq ((⟨0, (at_ : Int), (layer : Int), (h : Int), 0⟩ : Stp)).val,
          MPred.eq (.int .i64 (at_ : Int)),
          MPred.eq (.int .i64 ((at_ : Int) + 1)),
          MPred.steps (W.heap.size + 3) (rowsL (⟨0, (at_ : Int), (layer : Int), (h : Int), 0⟩ : Stp) 9 (at_ + 1)),
          MPred.eq ((⟨0, (at_ : Int), (layer : Int), (h : Int), 0⟩ : Stp)).val,
          MPred.ints [10, 11],
          MPred.steps (W.heap.size + 3) (onesL (⟨0, (at_ : Int), (layer : Int), (h : Int), 0⟩ : Stp) [10, 11]),
          MPred.sts [cur, rowsL (⟨0, (at_ : Int), (layer : Int), (h : Int), 0⟩ : Stp) 9 (at_ + 1), onesL (⟨0, (at_ : Int), (layer : Int), (h : Int), 0⟩ : Stp) [10, 11]],
          MPred.steps (W.heap.size + 3) ([cur, rowsL (⟨0, (at_ : Int), (layer : Int), (h : Int), 0⟩ : Stp) 9 (at_ + 1), onesL (⟨0, (at_ : Int), (layer : Int), (h : Int), 0⟩ : Stp) [10, 11]] : List (List Stp)).flatten,
          MPred.steps (W.heap.size + 3) L1] _ (by kernel_rfl) (by kernel_rfl) (fun us => by simp only [putAll, Act.put, List.setIfInBounds_toArray, List.set_cons_zero, List.set_cons_succ, Nat.reduceAdd]; rfl) ?_ ?_
      · exact (obls_cons (obl_move rfl (.inl rfl) fun us w hp => by
          have e := hp.2.2 10 (by kernel_rfl)
          show stepsP _ _ _ (us 10)
          rw [e]
          exact h9 w hp.1)
          (obls_cons (obl_load rfl rfl fun us w hp => ⟨⟨(W.heap.size + 2), 0, none⟩, _, rfl, load_step (hs w hp.1), rfl⟩)
          (obls_cons (obl_move rfl (.inl rfl) fun us w hp => rfl)
          (obls_cons (obl_add rfl rfl (by omega) (by omega) fun us w hp => ⟨hp.2.1 2 (by kernel_rfl), rfl, rfl⟩)
          (obls_cons (obl_call rfl rfl Try.func111 rfl rfl fun us w hp => ⟨#[us 1, .int .i64 9, us 3], by simp only [List.map_toArray, List.map_cons, List.map_nil]; rfl, by
          rw [show us 1 = ((⟨0, (at_ : Int), (layer : Int), (h : Int), 0⟩ : Stp)).val from hp.2.1 1 (by kernel_rfl), show us 3 = .int .i64 ((at_ + 1 : Nat) : Int) from hp.2.1 3 (by kernel_rfl)]
          exact (rows_any w (⟨0, (at_ : Int), (layer : Int), (h : Int), 0⟩ : Stp) 9 (at_ + 1) (by omega)).mono fun e w' h => h.m (hB w hp.1)⟩)
          (obls_cons (obl_load rfl rfl fun us w hp => ⟨⟨(W.heap.size + 2), 0, none⟩, _, rfl, load_step (hs w hp.1), rfl⟩)
          (obls_cons (obl_build rfl rfl fun us w hp => by
          obtain ⟨v, h1, h2⟩ := run_build_ints w [10, 11] (by decide) (by decide) 2 rfl #[(0, .int .i64 10), (1, .int .i64 11)] rfl
          exact ⟨#[(0, .int .i64 10), (1, .int .i64 11)], v, _, by simp only [List.map_toArray, List.map_cons, List.map_nil]; rfl, h1, h2, (Below.refl _ _).alloc (Nat.le_refl _) _⟩)
          (obls_cons (obl_call rfl rfl Try.func108 rfl rfl fun us w hp => ⟨#[us 5, us 6], by simp only [List.map_toArray, List.map_cons, List.map_nil]; rfl, by
          rw [show us 5 = ((⟨0, (at_ : Int), (layer : Int), (h : Int), 0⟩ : Stp)).val from hp.2.1 5 (by kernel_rfl)]
          exact (ones_any w (⟨0, (at_ : Int), (layer : Int), (h : Int), 0⟩ : Stp) (us 6) [10, 11] (hp.2.1 6 (by kernel_rfl)) (by decide)).mono fun e w' h => h.m (hB w hp.1)⟩)
          (obls_cons (obl_build rfl rfl fun us w hp => by
          obtain ⟨v, h1, h2⟩ := run_build_sts w (W.heap.size + 3) [cur, rowsL (⟨0, (at_ : Int), (layer : Int), (h : Int), 0⟩ : Stp) 9 (at_ + 1), onesL (⟨0, (at_ : Int), (layer : Int), (h : Int), 0⟩ : Stp) [10, 11]] [us 0, us 4, us 7] rfl (fun i v l hv hl => by
            match i with
            | 0 => exact Option.some.inj hv ▸ Option.some.inj hl ▸ hp.2.1 0 (by kernel_rfl)
            | 1 => exact Option.some.inj hv ▸ Option.some.inj hl ▸ hp.2.1 4 (by kernel_rfl)
            | 2 => exact Option.some.inj hv ▸ Option.some.inj hl ▸ hp.2.1 7 (by kernel_rfl)
            | n + 3 => simp at hv) (by simp) (by simp) 3 rfl #[(0, us 0), (1, us 4), (2, us 7)] rfl
          exact ⟨#[(0, us 0), (1, us 4), (2, us 7)], v, _, by simp only [List.map_toArray, List.map_cons, List.map_nil]; rfl, h1, h2, (Below.refl _ _).alloc (Nat.le_refl _) _⟩)
          (obls_cons (obl_call rfl rfl Try.func110 rfl rfl fun us w hp => ⟨#[us 8], by simp only [List.map_toArray, List.map_cons, List.map_nil]; rfl, by
          obtain ⟨hs, h1⟩ := hp.2.1 8 (by kernel_rfl)
          exact (concat_any w (us 8) hs [cur, rowsL (⟨0, (at_ : Int), (layer : Int), (h : Int), 0⟩ : Stp) 9 (at_ + 1), onesL (⟨0, (at_ : Int), (layer : Int), (h : Int), 0⟩ : Stp) [10, 11]] h1 (by simp) (by have := hlen; simp [lens, onesL_length, rowsL_length] at this ⊢; omega)).mono fun e w' h => h.m (hB w hp.1)⟩)
          (obls_cons (obl_move rfl (.inr rfl) fun us w hp => by rw [hL1]; exact hp.2.1 9 (by kernel_rfl))
          obls_nil)))))))))))
      intro us w6 hb6 hΦ
      obtain ⟨A6, c6, e6, ho6⟩ := hΦ 10 (by decide)
      rw [e6] at ho6
      obtain ⟨n1, hn1⟩ : ∃ n1, n1 = L1.length := ⟨_, rfl⟩
      rw [← hn1] at e6 ho6
      rw [e6]
      have H6 := Lib.hid (And.intro ho6 (And.intro hn1 (And.intro hL1 (And.intro hcur (And.intro ((hb6.block _ (by omega)).trans hst) (And.intro ((hb6.block _ (by omega)).trans hcf) (And.intro (below_chain hbW hb6) (Nat.le_trans hz hb6.size))))))))
      clear ho6 hn1 hL1 hcur hst hcf hbW hz hlen hs hc1 hc5 hB h9 hs9 ho5 hΦ hb6 e6 hn HI
      go_wp2_with fail
      go_roundw
      case rel =>
        refine ⟨h + 1, A6, c6, n1, by omega, by go_num, rfl, L1, (h : Int), ?_, H6.out.2.1, H6.out.1, H6.out.2.2.2.2.1, H6.out.2.2.2.2.2.1, H6.out.2.2.2.2.2.2.1, H6.out.2.2.2.2.2.2.2⟩
        rw [H6.out.2.2.1, H6.out.2.2.2.1, headsL_base]
        simp [List.append_assoc]
      case measure => simp [intOf]; omega
    · have hh9 : p.heads = h := by omega
      have d3 : wr.cell? ⟨W.heap.size + 2, 3, none⟩ = some (.int .i64 k) := by rw [cell_of_row _ _ 3 _ _ _ hst]; rfl
      have f3 := frozen_of_row _ _ 3 _ _ hst
      have HI := Lib.hid (And.intro hcur (And.intro hn (And.intro ho (And.intro hst (And.intro hcf (And.intro hbW (And.intro hz (And.intro hlen hh9))))))))
      have i1 : ¬ (h : Int) < (p.heads : Int) := by omega
      clear hcur hn ho hst hcf hbW hz hlen hI c42 hh9
      go_upto_region 11 with fail
      obtain ⟨w5, hw5⟩ : ∃ w5, w5 = wr.setCell ⟨W.heap.size + 1 + 1, 3, none⟩ (.int .i64 0) := ⟨_, rfl⟩
      rw [← hw5]
      obtain ⟨hcur, hn, ho, hst0, hcf0, hbW0, hz0, hlen, hh9⟩ := HI.out
      have hst : w5.heap[W.heap.size + 2]? = some (.cells (Stp.cells (⟨0, (at_ : Int), (layer : Int), 0, 0⟩ : Stp)).toArray 69 (0, 0)) := by rw [hw5]; exact set_cells hst0 3 _
      have hcf : w5.heap[W.heap.size + 1]? = some (.cells (cfgC p ctx).toArray 23 (0, 0)) := by rw [hw5]; exact (Below.heap_setCell _ _ _ _ (by simp)).trans hcf0
      have hz : W.heap.size + 3 ≤ w5.heap.size := by rw [hw5]; simpa using hz0
      have hbW : Below W.heap.size W w5 := by rw [hw5]; exact hbW0.setCell (p := ⟨W.heap.size + 1 + 1, 3, none⟩) (by simp; omega) _
      have ho5 : Owns w5 (W.heap.size + 3) 5 (.slice A n c) n (flatS cur) := by rw [hw5]; exact ho.setCell (a := ⟨W.heap.size + 1 + 1, 3, none⟩) (fun b hb => by have := (ho.lt b hb).1; simp; omega) _
      have hs9 : stepsP (W.heap.size + 3) cur w5 (.slice A n c) := ⟨A, c, by rw [← hn], by rw [← hn]; exact ho5⟩
      clear hw5 hst0 hcf0 hbW0 hz0 ho d3 f3
      have hs : ∀ w, Below w5.heap.size w5.drew w → w.heap[W.heap.size + 2]? = some (.cells (Stp.cells (⟨0, (at_ : Int), (layer : Int), 0, 0⟩ : Stp)).toArray 69 (0, 0)) := fun w hb => (hb.block _ (by omega)).trans hst
      have hc1 : ∀ w, Below w5.heap.size w5.drew w → w.cell? ⟨W.heap.size + 1, 1, none⟩ = some (.int .i64 (p.dim : Int)) := fun w hb => by rw [cell_of_row _ _ 1 _ _ _ ((hb.block _ (by omega)).trans hcf)]; rfl
      have hc5 : ∀ w, Below w5.heap.size w5.drew w → w.cell? ⟨W.heap.size + 1, 5, none⟩ = some (.int .i64 (p.hidden : Int)) := fun w hb => by rw [cell_of_row _ _ 5 _ _ _ ((hb.block _ (by omega)).trans hcf)]; rfl
      have hB : ∀ w, Below w5.heap.size w5.drew w → W.heap.size + 3 ≤ w.heap.size := fun w hb => by have := hb.size; have : w5.drew.heap.size = w5.heap.size := rfl; omega
      have h9 : ∀ w, Below w5.heap.size w5.drew w → stepsP (W.heap.size + 3) cur w (.slice A n c) := fun w hb => hs9.new ((drewB w5).trans hb)
      obtain ⟨L1, hL1⟩ : ∃ L1 : List Stp, L1 = [cur, rowsL (⟨0, (at_ : Int), (layer : Int), 0, 0⟩ : Stp) 12 p.dim, onesL (⟨0, (at_ : Int), (layer : Int), 0, 0⟩ : Stp) [13, 14], rowsL (⟨0, (at_ : Int), (layer : Int), 0, 0⟩ : Stp) 15 p.hidden, onesL (⟨0, (at_ : Int), (layer : Int), 0, 0⟩ : Stp) [16]].flatten := ⟨_, rfl⟩
      refine wp_region_mono [MPred.steps (W.heap.size + 3) cur,
          MPred.eq ((⟨0, (at_ : Int), (layer : Int), 0, 0⟩ : Stp)).val,
          MPred.eq (.pointer (some ⟨W.heap.size + 1, 1, none⟩)),
          MPred.eq (.int .i64 (p.dim : Int)),
          MPred.steps (W.heap.size + 3) (rowsL (⟨0, (at_ : Int), (layer : Int), 0, 0⟩ : Stp) 12 (p.dim)),
          MPred.eq ((⟨0, (at_ : Int), (layer : Int), 0, 0⟩ : Stp)).val,
          MPred.ints [13, 14],
          MPred.steps (W.heap.size + 3) (onesL (⟨0, (at_ : Int), (layer : Int), 0, 0⟩ : Stp) [13, 14]),
          MPred.eq ((⟨0, (at_ : Int), (layer : Int), 0, 0⟩ : Stp)).val,
          MPred.eq (.pointer (some ⟨W.heap.size + 1, 5, none⟩)),
          MPred.eq (.int .i64 (p.hidden : Int)),
          MPred.steps (W.heap.size + 3) (rowsL (⟨0, (at_ : Int), (layer : Int), 0, 0⟩ : Stp) 15 (p.hidden)),
          MPred.eq ((⟨0, (at_ : Int), (layer : Int), 0, 0⟩ : Stp)).val,
          MPred.ints [16],
          MPred.steps (W.heap.size + 3) (onesL (⟨0, (at_ : Int), (layer : Int), 0, 0⟩ : Stp) [16]),
          MPred.sts [cur, rowsL (⟨0, (at_ : Int), (layer : Int), 0, 0⟩ : Stp) 12 p.dim, onesL (⟨0, (at_ : Int), (layer : Int), 0, 0⟩ : Stp) [13, 14], rowsL (⟨0, (at_ : Int), (layer : Int), 0, 0⟩ : Stp) 15 p.hidden, onesL (⟨0, (at_ : Int), (layer : Int), 0, 0⟩ : Stp) [16]],
          MPred.steps (W.heap.size + 3) ([cur, rowsL (⟨0, (at_ : Int), (layer : Int), 0, 0⟩ : Stp) 12 p.dim, onesL (⟨0, (at_ : Int), (layer : Int), 0, 0⟩ : Stp) [13, 14], rowsL (⟨0, (at_ : Int), (layer : Int), 0, 0⟩ : Stp) 15 p.hidden, onesL (⟨0, (at_ : Int), (layer : Int), 0, 0⟩ : Stp) [16]] : List (List Stp)).flatten,
          MPred.steps (W.heap.size + 3) L1] _ (by kernel_rfl) (by kernel_rfl) (fun us => by simp only [putAll, Act.put, List.setIfInBounds_toArray, List.set_cons_zero, List.set_cons_succ, Nat.reduceAdd]; rfl) ?_ ?_
      · exact (obls_cons (obl_move rfl (.inl rfl) fun us w hp => by
          have e := hp.2.2 17 (by kernel_rfl)
          show stepsP _ _ _ (us 17)
          rw [e]
          exact h9 w hp.1)
          (obls_cons (obl_load rfl rfl fun us w hp => ⟨⟨(W.heap.size + 2), 0, none⟩, _, rfl, load_step (hs w hp.1), rfl⟩)
          (obls_cons (obl_field rfl rfl fun us w hp => ⟨_, field_cfg1 w _, rfl⟩)
          (obls_cons (obl_load rfl rfl fun us w hp => ⟨_, _, hp.2.1 2 (by kernel_rfl), load_int (hc1 w hp.1), rfl⟩)
          (obls_cons (obl_call rfl rfl Try.func111 rfl rfl fun us w hp => ⟨#[us 1, .int .i64 12, us 3], by simp only [List.map_toArray, List.map_cons, List.map_nil]; rfl, by
          rw [show us 1 = ((⟨0, (at_ : Int), (layer : Int), 0, 0⟩ : Stp)).val from hp.2.1 1 (by kernel_rfl), show us 3 = .int .i64 ((p.dim : Nat) : Int) from hp.2.1 3 (by kernel_rfl)]
          exact (rows_any w (⟨0, (at_ : Int), (layer : Int), 0, 0⟩ : Stp) 12 (p.dim) hd).mono fun e w' h => h.m (hB w hp.1)⟩)
          (obls_cons (obl_load rfl rfl fun us w hp => ⟨⟨(W.heap.size + 2), 0, none⟩, _, rfl, load_step (hs w hp.1), rfl⟩)
          (obls_cons (obl_build rfl rfl fun us w hp => by
          obtain ⟨v, h1, h2⟩ := run_build_ints w [13, 14] (by decide) (by decide) 2 rfl #[(0, .int .i64 13), (1, .int .i64 14)] rfl
          exact ⟨#[(0, .int .i64 13), (1, .int .i64 14)], v, _, by simp only [List.map_toArray, List.map_cons, List.map_nil]; rfl, h1, h2, (Below.refl _ _).alloc (Nat.le_refl _) _⟩)
          (obls_cons (obl_call rfl rfl Try.func108 rfl rfl fun us w hp => ⟨#[us 5, us 6], by simp only [List.map_toArray, List.map_cons, List.map_nil]; rfl, by
          rw [show us 5 = ((⟨0, (at_ : Int), (layer : Int), 0, 0⟩ : Stp)).val from hp.2.1 5 (by kernel_rfl)]
          exact (ones_any w (⟨0, (at_ : Int), (layer : Int), 0, 0⟩ : Stp) (us 6) [13, 14] (hp.2.1 6 (by kernel_rfl)) (by decide)).mono fun e w' h => h.m (hB w hp.1)⟩)
          (obls_cons (obl_load rfl rfl fun us w hp => ⟨⟨(W.heap.size + 2), 0, none⟩, _, rfl, load_step (hs w hp.1), rfl⟩)
          (obls_cons (obl_field rfl rfl fun us w hp => ⟨_, field_cfg5 w _, rfl⟩)
          (obls_cons (obl_load rfl rfl fun us w hp => ⟨_, _, hp.2.1 9 (by kernel_rfl), load_int (hc5 w hp.1), rfl⟩)
          (obls_cons (obl_call rfl rfl Try.func111 rfl rfl fun us w hp => ⟨#[us 8, .int .i64 15, us 10], by simp only [List.map_toArray, List.map_cons, List.map_nil]; rfl, by
          rw [show us 8 = ((⟨0, (at_ : Int), (layer : Int), 0, 0⟩ : Stp)).val from hp.2.1 8 (by kernel_rfl), show us 10 = .int .i64 ((p.hidden : Nat) : Int) from hp.2.1 10 (by kernel_rfl)]
          exact (rows_any w (⟨0, (at_ : Int), (layer : Int), 0, 0⟩ : Stp) 15 (p.hidden) hx).mono fun e w' h => h.m (hB w hp.1)⟩)
          (obls_cons (obl_load rfl rfl fun us w hp => ⟨⟨(W.heap.size + 2), 0, none⟩, _, rfl, load_step (hs w hp.1), rfl⟩)
          (obls_cons (obl_build rfl rfl fun us w hp => by
          obtain ⟨v, h1, h2⟩ := run_build_ints w [16] (by decide) (by decide) 1 rfl #[(0, .int .i64 16)] rfl
          exact ⟨#[(0, .int .i64 16)], v, _, by simp only [List.map_toArray, List.map_cons, List.map_nil]; rfl, h1, h2, (Below.refl _ _).alloc (Nat.le_refl _) _⟩)
          (obls_cons (obl_call rfl rfl Try.func108 rfl rfl fun us w hp => ⟨#[us 12, us 13], by simp only [List.map_toArray, List.map_cons, List.map_nil]; rfl, by
          rw [show us 12 = ((⟨0, (at_ : Int), (layer : Int), 0, 0⟩ : Stp)).val from hp.2.1 12 (by kernel_rfl)]
          exact (ones_any w (⟨0, (at_ : Int), (layer : Int), 0, 0⟩ : Stp) (us 13) [16] (hp.2.1 13 (by kernel_rfl)) (by decide)).mono fun e w' h => h.m (hB w hp.1)⟩)
          (obls_cons (obl_build rfl rfl fun us w hp => by
          obtain ⟨v, h1, h2⟩ := run_build_sts w (W.heap.size + 3) [cur, rowsL (⟨0, (at_ : Int), (layer : Int), 0, 0⟩ : Stp) 12 p.dim, onesL (⟨0, (at_ : Int), (layer : Int), 0, 0⟩ : Stp) [13, 14], rowsL (⟨0, (at_ : Int), (layer : Int), 0, 0⟩ : Stp) 15 p.hidden, onesL (⟨0, (at_ : Int), (layer : Int), 0, 0⟩ : Stp) [16]] [us 0, us 4, us 7, us 11, us 14] rfl (fun i v l hv hl => by
            match i with
            | 0 => exact Option.some.inj hv ▸ Option.some.inj hl ▸ hp.2.1 0 (by kernel_rfl)
            | 1 => exact Option.some.inj hv ▸ Option.some.inj hl ▸ hp.2.1 4 (by kernel_rfl)
            | 2 => exact Option.some.inj hv ▸ Option.some.inj hl ▸ hp.2.1 7 (by kernel_rfl)
            | 3 => exact Option.some.inj hv ▸ Option.some.inj hl ▸ hp.2.1 11 (by kernel_rfl)
            | 4 => exact Option.some.inj hv ▸ Option.some.inj hl ▸ hp.2.1 14 (by kernel_rfl)
            | n + 5 => simp at hv) (by simp) (by simp) 5 rfl #[(0, us 0), (1, us 4), (2, us 7), (3, us 11), (4, us 14)] rfl
          exact ⟨#[(0, us 0), (1, us 4), (2, us 7), (3, us 11), (4, us 14)], v, _, by simp only [List.map_toArray, List.map_cons, List.map_nil]; rfl, h1, h2, (Below.refl _ _).alloc (Nat.le_refl _) _⟩)
          (obls_cons (obl_call rfl rfl Try.func110 rfl rfl fun us w hp => ⟨#[us 15], by simp only [List.map_toArray, List.map_cons, List.map_nil]; rfl, by
          obtain ⟨hs, h1⟩ := hp.2.1 15 (by kernel_rfl)
          exact (concat_any w (us 15) hs [cur, rowsL (⟨0, (at_ : Int), (layer : Int), 0, 0⟩ : Stp) 12 p.dim, onesL (⟨0, (at_ : Int), (layer : Int), 0, 0⟩ : Stp) [13, 14], rowsL (⟨0, (at_ : Int), (layer : Int), 0, 0⟩ : Stp) 15 p.hidden, onesL (⟨0, (at_ : Int), (layer : Int), 0, 0⟩ : Stp) [16]] h1 (by simp) (by have := hlen; simp [lens, onesL_length, rowsL_length] at this ⊢; omega)).mono fun e w' h => h.m (hB w hp.1)⟩)
          (obls_cons (obl_move rfl (.inr rfl) fun us w hp => by rw [hL1]; exact hp.2.1 16 (by kernel_rfl))
          obls_nil))))))))))))))))))
      intro us w6 hb6 hΦ
      have hs11 : stepsP (W.heap.size + 3) L1 w6 (us 17) := hΦ 17 (by decide)
      have hlen11 : L1.length ≤ 3100 + 100 * 1000 + 3000 := by rw [hL1]; simp [onesL_length, rowsL_length]; omega
      obtain ⟨A6, c6, e6, -⟩ := hs11
      have hs11 : stepsP (W.heap.size + 3) L1 w6 (us 17) := hΦ 17 (by decide)
      obtain ⟨n1, hn1⟩ : ∃ n1, n1 = L1.length := ⟨_, rfl⟩
      rw [← hn1] at e6
      rw [e6] at hs11 ⊢
      have H6 := Lib.hid (And.intro hs11 (And.intro hn1 (And.intro hL1 (And.intro hcur (And.intro ((hb6.block _ (by omega)).trans hst) (And.intro ((hb6.block _ (by omega)).trans hcf) (And.intro (below_chain hbW hb6) (And.intro (Nat.le_trans hz hb6.size) (And.intro hlen11 hh9)))))))))
      clear hn1 hL1 hcur hst hcf hbW hz hlen hs hc1 hc5 hB h9 hs9 ho5 hΦ hb6 e6 hn HI hs11 hlen11 hh9
      as_aux_lemma =>
        go_upto_region 12 with fail
        obtain ⟨hs11, hn1, hL1', hcur', hst, hcf, hbW, hz, hlen0, hh9⟩ := H6.out
        have hlen := hlen0
        have hs : ∀ w, Below w6.heap.size w6.drew w → w.heap[W.heap.size + 2]? = some (.cells (Stp.cells (⟨0, (at_ : Int), (layer : Int), 0, 0⟩ : Stp)).toArray 69 (0, 0)) := fun w hb => (hb.block _ (by omega)).trans hst
        have hc1 : ∀ w, Below w6.heap.size w6.drew w → w.cell? ⟨W.heap.size + 1, 1, none⟩ = some (.int .i64 (p.dim : Int)) := fun w hb => by rw [cell_of_row _ _ 1 _ _ _ ((hb.block _ (by omega)).trans hcf)]; rfl
        have hc5 : ∀ w, Below w6.heap.size w6.drew w → w.cell? ⟨W.heap.size + 1, 5, none⟩ = some (.int .i64 (p.hidden : Int)) := fun w hb => by rw [cell_of_row _ _ 5 _ _ _ ((hb.block _ (by omega)).trans hcf)]; rfl
        have hB : ∀ w, Below w6.heap.size w6.drew w → W.heap.size + 3 ≤ w.heap.size := fun w hb => by have := hb.size; have : w6.drew.heap.size = w6.heap.size := rfl; omega
        have h9 : ∀ w, Below w6.heap.size w6.drew w → stepsP (W.heap.size + 3) L1 w (.slice A6 n1 c6) := fun w hb => hs11.new ((drewB w6).trans hb)
        obtain ⟨L2, hL2⟩ : ∃ L2 : List Stp, L2 = [L1, rowsL (⟨0, (at_ : Int), (layer : Int), 0, 0⟩ : Stp) 17 p.hidden, onesL (⟨0, (at_ : Int), (layer : Int), 0, 0⟩ : Stp) [18], rowsL (⟨0, (at_ : Int), (layer : Int), 0, 0⟩ : Stp) 19 p.dim, onesL (⟨0, (at_ : Int), (layer : Int), 0, 0⟩ : Stp) [20]].flatten := ⟨_, rfl⟩
        refine wp_region_mono [MPred.steps (W.heap.size + 3) L1,
            MPred.eq ((⟨0, (at_ : Int), (layer : Int), 0, 0⟩ : Stp)).val,
            MPred.eq (.pointer (some ⟨W.heap.size + 1, 5, none⟩)),
            MPred.eq (.int .i64 (p.hidden : Int)),
            MPred.steps (W.heap.size + 3) (rowsL (⟨0, (at_ : Int), (layer : Int), 0, 0⟩ : Stp) 17 (p.hidden)),
            MPred.eq ((⟨0, (at_ : Int), (layer : Int), 0, 0⟩ : Stp)).val,
            MPred.ints [18],
            MPred.steps (W.heap.size + 3) (onesL (⟨0, (at_ : Int), (layer : Int), 0, 0⟩ : Stp) [18]),
            MPred.eq ((⟨0, (at_ : Int), (layer : Int), 0, 0⟩ : Stp)).val,
            MPred.eq (.pointer (some ⟨W.heap.size + 1, 1, none⟩)),
            MPred.eq (.int .i64 (p.dim : Int)),
            MPred.steps (W.heap.size + 3) (rowsL (⟨0, (at_ : Int), (layer : Int), 0, 0⟩ : Stp) 19 (p.dim)),
            MPred.eq ((⟨0, (at_ : Int), (layer : Int), 0, 0⟩ : Stp)).val,
            MPred.ints [20],
            MPred.steps (W.heap.size + 3) (onesL (⟨0, (at_ : Int), (layer : Int), 0, 0⟩ : Stp) [20]),
            MPred.sts [L1, rowsL (⟨0, (at_ : Int), (layer : Int), 0, 0⟩ : Stp) 17 p.hidden, onesL (⟨0, (at_ : Int), (layer : Int), 0, 0⟩ : Stp) [18], rowsL (⟨0, (at_ : Int), (layer : Int), 0, 0⟩ : Stp) 19 p.dim, onesL (⟨0, (at_ : Int), (layer : Int), 0, 0⟩ : Stp) [20]],
            MPred.steps (W.heap.size + 3) ([L1, rowsL (⟨0, (at_ : Int), (layer : Int), 0, 0⟩ : Stp) 17 p.hidden, onesL (⟨0, (at_ : Int), (layer : Int), 0, 0⟩ : Stp) [18], rowsL (⟨0, (at_ : Int), (layer : Int), 0, 0⟩ : Stp) 19 p.dim, onesL (⟨0, (at_ : Int), (layer : Int), 0, 0⟩ : Stp) [20]] : List (List Stp)).flatten,
            MPred.steps (W.heap.size + 3) L2] _ (by kernel_rfl) (by kernel_rfl) (fun us => by simp only [putAll, Act.put, List.setIfInBounds_toArray, List.set_cons_zero, List.set_cons_succ, Nat.reduceAdd]; rfl) ?_ ?_
        · exact (obls_cons (obl_move rfl (.inl rfl) fun us w hp => h9 w hp.1)
            (obls_cons (obl_load rfl rfl fun us w hp => ⟨⟨(W.heap.size + 2), 0, none⟩, _, rfl, load_step (hs w hp.1), rfl⟩)
            (obls_cons (obl_field rfl rfl fun us w hp => ⟨_, field_cfg5 w _, rfl⟩)
            (obls_cons (obl_load rfl rfl fun us w hp => ⟨_, _, hp.2.1 2 (by kernel_rfl), load_int (hc5 w hp.1), rfl⟩)
            (obls_cons (obl_call rfl rfl Try.func111 rfl rfl fun us w hp => ⟨#[us 1, .int .i64 17, us 3], by simp only [List.map_toArray, List.map_cons, List.map_nil]; rfl, by
            rw [show us 1 = ((⟨0, (at_ : Int), (layer : Int), 0, 0⟩ : Stp)).val from hp.2.1 1 (by kernel_rfl), show us 3 = .int .i64 ((p.hidden : Nat) : Int) from hp.2.1 3 (by kernel_rfl)]
            exact (rows_any w (⟨0, (at_ : Int), (layer : Int), 0, 0⟩ : Stp) 17 (p.hidden) hx).mono fun e w' h => h.m (hB w hp.1)⟩)
            (obls_cons (obl_load rfl rfl fun us w hp => ⟨⟨(W.heap.size + 2), 0, none⟩, _, rfl, load_step (hs w hp.1), rfl⟩)
            (obls_cons (obl_build rfl rfl fun us w hp => by
            obtain ⟨v, h1, h2⟩ := run_build_ints w [18] (by decide) (by decide) 1 rfl #[(0, .int .i64 18)] rfl
            exact ⟨#[(0, .int .i64 18)], v, _, by simp only [List.map_toArray, List.map_cons, List.map_nil]; rfl, h1, h2, (Below.refl _ _).alloc (Nat.le_refl _) _⟩)
            (obls_cons (obl_call rfl rfl Try.func108 rfl rfl fun us w hp => ⟨#[us 5, us 6], by simp only [List.map_toArray, List.map_cons, List.map_nil]; rfl, by
            rw [show us 5 = ((⟨0, (at_ : Int), (layer : Int), 0, 0⟩ : Stp)).val from hp.2.1 5 (by kernel_rfl)]
            exact (ones_any w (⟨0, (at_ : Int), (layer : Int), 0, 0⟩ : Stp) (us 6) [18] (hp.2.1 6 (by kernel_rfl)) (by decide)).mono fun e w' h => h.m (hB w hp.1)⟩)
            (obls_cons (obl_load rfl rfl fun us w hp => ⟨⟨(W.heap.size + 2), 0, none⟩, _, rfl, load_step (hs w hp.1), rfl⟩)
            (obls_cons (obl_field rfl rfl fun us w hp => ⟨_, field_cfg1 w _, rfl⟩)
            (obls_cons (obl_load rfl rfl fun us w hp => ⟨_, _, hp.2.1 9 (by kernel_rfl), load_int (hc1 w hp.1), rfl⟩)
            (obls_cons (obl_call rfl rfl Try.func111 rfl rfl fun us w hp => ⟨#[us 8, .int .i64 19, us 10], by simp only [List.map_toArray, List.map_cons, List.map_nil]; rfl, by
            rw [show us 8 = ((⟨0, (at_ : Int), (layer : Int), 0, 0⟩ : Stp)).val from hp.2.1 8 (by kernel_rfl), show us 10 = .int .i64 ((p.dim : Nat) : Int) from hp.2.1 10 (by kernel_rfl)]
            exact (rows_any w (⟨0, (at_ : Int), (layer : Int), 0, 0⟩ : Stp) 19 (p.dim) hd).mono fun e w' h => h.m (hB w hp.1)⟩)
            (obls_cons (obl_load rfl rfl fun us w hp => ⟨⟨(W.heap.size + 2), 0, none⟩, _, rfl, load_step (hs w hp.1), rfl⟩)
            (obls_cons (obl_build rfl rfl fun us w hp => by
            obtain ⟨v, h1, h2⟩ := run_build_ints w [20] (by decide) (by decide) 1 rfl #[(0, .int .i64 20)] rfl
            exact ⟨#[(0, .int .i64 20)], v, _, by simp only [List.map_toArray, List.map_cons, List.map_nil]; rfl, h1, h2, (Below.refl _ _).alloc (Nat.le_refl _) _⟩)
            (obls_cons (obl_call rfl rfl Try.func108 rfl rfl fun us w hp => ⟨#[us 12, us 13], by simp only [List.map_toArray, List.map_cons, List.map_nil]; rfl, by
            rw [show us 12 = ((⟨0, (at_ : Int), (layer : Int), 0, 0⟩ : Stp)).val from hp.2.1 12 (by kernel_rfl)]
            exact (ones_any w (⟨0, (at_ : Int), (layer : Int), 0, 0⟩ : Stp) (us 13) [20] (hp.2.1 13 (by kernel_rfl)) (by decide)).mono fun e w' h => h.m (hB w hp.1)⟩)
            (obls_cons (obl_build rfl rfl fun us w hp => by
            obtain ⟨v, h1, h2⟩ := run_build_sts w (W.heap.size + 3) [L1, rowsL (⟨0, (at_ : Int), (layer : Int), 0, 0⟩ : Stp) 17 p.hidden, onesL (⟨0, (at_ : Int), (layer : Int), 0, 0⟩ : Stp) [18], rowsL (⟨0, (at_ : Int), (layer : Int), 0, 0⟩ : Stp) 19 p.dim, onesL (⟨0, (at_ : Int), (layer : Int), 0, 0⟩ : Stp) [20]] [us 0, us 4, us 7, us 11, us 14] rfl (fun i v l hv hl => by
              match i with
              | 0 => exact Option.some.inj hv ▸ Option.some.inj hl ▸ hp.2.1 0 (by kernel_rfl)
              | 1 => exact Option.some.inj hv ▸ Option.some.inj hl ▸ hp.2.1 4 (by kernel_rfl)
              | 2 => exact Option.some.inj hv ▸ Option.some.inj hl ▸ hp.2.1 7 (by kernel_rfl)
              | 3 => exact Option.some.inj hv ▸ Option.some.inj hl ▸ hp.2.1 11 (by kernel_rfl)
              | 4 => exact Option.some.inj hv ▸ Option.some.inj hl ▸ hp.2.1 14 (by kernel_rfl)
              | n + 5 => simp at hv) (by simp) (by simp) 5 rfl #[(0, us 0), (1, us 4), (2, us 7), (3, us 11), (4, us 14)] rfl
            exact ⟨#[(0, us 0), (1, us 4), (2, us 7), (3, us 11), (4, us 14)], v, _, by simp only [List.map_toArray, List.map_cons, List.map_nil]; rfl, h1, h2, (Below.refl _ _).alloc (Nat.le_refl _) _⟩)
            (obls_cons (obl_call rfl rfl Try.func110 rfl rfl fun us w hp => ⟨#[us 15], by simp only [List.map_toArray, List.map_cons, List.map_nil]; rfl, by
            obtain ⟨hs, h1⟩ := hp.2.1 15 (by kernel_rfl)
            exact (concat_any w (us 15) hs [L1, rowsL (⟨0, (at_ : Int), (layer : Int), 0, 0⟩ : Stp) 17 p.hidden, onesL (⟨0, (at_ : Int), (layer : Int), 0, 0⟩ : Stp) [18], rowsL (⟨0, (at_ : Int), (layer : Int), 0, 0⟩ : Stp) 19 p.dim, onesL (⟨0, (at_ : Int), (layer : Int), 0, 0⟩ : Stp) [20]] h1 (by simp) (by have := hlen; simp [lens, onesL_length, rowsL_length] at this ⊢; omega)).mono fun e w' h => h.m (hB w hp.1)⟩)
            (obls_cons (obl_move rfl (.inr rfl) fun us w hp => by rw [hL2]; exact hp.2.1 16 (by kernel_rfl))
            obls_nil))))))))))))))))))
        intro us w7 hb7 hΦ
        have hs12 : stepsP (W.heap.size + 3) L2 w7 (us 17) := hΦ 17 (by decide)
        obtain ⟨A7, c7, e7, ho7⟩ := hs12
        rw [e7] at ho7 ⊢
        have hb8 := below_chain hbW hb7
        have hfin : L2 = layerL p at_ layer := by
          rw [hL2, hL1', hcur', H4.out.2.2.2.2.2.1, ← hh9]
          unfold layerL
          simp [List.append_assoc]
        rw [hfin] at ho7 ⊢
        have HE := Lib.hid (And.intro ho7 hb8)
        clear ho7 hb8 hs11 hn1 hL1' hcur' hst hcf hbW hz hlen0 hh9 hlen hs hc1 hc5 hB h9 hΦ hb7 e7 hL2 hfin
        obtain ⟨n2, hn2⟩ : ∃ n2, n2 = (layerL p at_ layer).length := ⟨_, rfl⟩
        rw [← hn2] at HE ⊢
        have HN2 := Lib.hid hn2
        clear hn2
        go_wp2_with fail
        go_ret
        rw [HN2.out] at HE ⊢
        exact ⟨A7, c7, rfl, HE.out.1.mono (by omega), HE.out.2⟩
end Go.Proofs.Ytfhaebaegkpkhaa.Pln
