import Derived.Test.YtlgoclfdjlmjnaaSeq
namespace Go.Proofs.Ytlgoclfdjlmjnaa.Cfg
open Go.RowKit Go.Shelf
attribute [local go_sem] Oper.semAt_some
attribute [local go_sem ↓] Kit.execOp_call_slot
attribute [local go_sem] Kit.callSlot_func

def rowsSum (l : List Blk) : Int := (l.map (·.rows)).sum
theorem rowsSum_snoc (l : List Blk) (b : Blk) : rowsSum (l ++ [b]) = rowsSum l + b.rows := by simp [rowsSum]

theorem range_of_chk {c : C6} (h : c.chk = 0) : c.range = true := by
  unfold C6.chk at h
  cases hr : c.range with
  | true => rfl
  | false => rw [hr] at h; simp at h
theorem bounds_of {c : C6} (h : c.chk = 0) : (1 ≤ c.v ∧ c.v ≤ 512) ∧ (2 ≤ c.d ∧ c.d ≤ 64) ∧ (1 ≤ c.h ∧ c.h ≤ 8) ∧ (1 ≤ c.l ∧ c.l ≤ 4) ∧ (1 ≤ c.c ∧ c.c ≤ 64) ∧ (1 ≤ c.x ∧ c.x ≤ 64) := by
  have hr := range_of_chk h
  simp only [C6.range, Bool.and_eq_true] at hr
  exact ⟨chkB_of hr.1, chkB_of hr.2.1, chkB_of hr.2.2.1, chkB_of hr.2.2.2.1, chkB_of hr.2.2.2.2.1, chkB_of hr.2.2.2.2.2⟩

theorem mem_layer {c : C6} {i : Int} {b : Blk} (h : b ∈ layerBlks c i) : b.rows = 1 ∨ b.rows = c.d ∨ b.rows = c.x := by
  simp [layerBlks, mk] at h
  rcases h with rfl | rfl | rfl | rfl | rfl | rfl | rfl | rfl | rfl <;> simp
theorem mem_blks {c : C6} {b : Blk} (h : b ∈ blks c) : b.rows = 1 ∨ b.rows = c.d ∨ b.rows = c.x ∨ b.rows = c.v := by
  simp only [blks, List.mem_append, List.map_cons, List.map_nil, List.mem_singleton, layersBlks, List.mem_flatMap] at h
  rcases h with ((rfl | ⟨i, _, h⟩) | rfl) | rfl
  · simp [mk]
  · rcases mem_layer h with h | h | h <;> simp [h]
  · simp
  · simp [mk]
theorem rows_bound {c : C6} (h : c.chk = 0) {b : Blk} (hb : b ∈ blks c) : 1 ≤ b.rows ∧ b.rows ≤ 512 := by
  have := bounds_of h
  rcases mem_blks hb with e | e | e | e <;> rw [e] <;> omega
theorem blks_length {c : C6} : (blks c).length = 3 + c.l.toNat * 9 := by
  simp only [blks, List.length_append, List.length_map, List.length_cons, List.length_nil, layersBlks_length]; omega
theorem rowsSum_bound {l : List Blk} {m : Int} (hm : 0 ≤ m) (h : ∀ b ∈ l, 0 ≤ b.rows ∧ b.rows ≤ m) : 0 ≤ rowsSum l ∧ rowsSum l ≤ l.length * m := by
  induction l with
  | nil => simp [rowsSum]
  | cons b l ih =>
    have h1 := ih (fun x hx => h x (by simp [hx]))
    have h2 := h b (by simp)
    simp only [rowsSum, List.map_cons, List.sum_cons, List.length_cons] at h1 ⊢
    push_cast
    rw [Int.add_mul]
    omega

theorem cf_all {W : World} {C : Nat} {c : C6} (h : CfAt W C c) : W.cell? ⟨C, 0, none⟩ = some (.int .i64 c.v) ∧ W.cell? ⟨C, 1, none⟩ = some (.int .i64 c.d) ∧ W.cell? ⟨C, 2, none⟩ = some (.int .i64 c.h) ∧ W.cell? ⟨C, 3, none⟩ = some (.int .i64 c.l) ∧ W.cell? ⟨C, 4, none⟩ = some (.int .i64 c.c) ∧ W.cell? ⟨C, 5, none⟩ = some (.int .i64 c.x) := by
  unfold CfAt at h
  refine ⟨?_, ?_, ?_, ?_, ?_, ?_⟩ <;> (rw [cell_of_row W C _ _ _ _ h]; rfl)

theorem boxed_inj {W : World} {q : Nat} {t : TypeId} {v v' : Value} (h : Boxed W q t v) (h' : Boxed W q t v') : v = v' := by
  have := h'.cell
  rw [h.cell] at this
  exact Option.some.inj this

def rowsW (l : List Blk) : Int := l.foldl (fun s b => wrap64 (s + b.rows)) 1
theorem rowsW_snoc (l : List Blk) (b : Blk) : rowsW (l ++ [b]) = wrap64 (rowsW l + b.rows) := by simp [rowsW]
theorem rowsW_eq (l : List Blk) (hl : l.length ≤ 1000) (h : ∀ b ∈ l, 1 ≤ b.rows ∧ b.rows ≤ 512) : rowsW l = 1 + rowsSum l := by
  have key : ∀ (m l : List Blk) (s : Int), (∀ b ∈ l, 1 ≤ b.rows ∧ b.rows ≤ 512) → 0 ≤ s → s + l.length * 512 ≤ 1000000 → l.foldl (fun s b => wrap64 (s + b.rows)) s = s + rowsSum l := by
    intro m l
    induction l with
    | nil => intro s _ _ _; simp [rowsSum]
    | cons b l ih =>
      intro s hb h0 h1
      have hb1 := hb b (by simp)
      simp only [List.length_cons] at h1
      push_cast at h1
      have e : wrap64 (s + b.rows) = s + b.rows := by unfold wrap64; omega
      simp only [List.foldl_cons, e]
      rw [ih _ (fun x hx => hb x (by simp [hx])) (by omega) (by omega)]
      simp [rowsSum]
      omega
  exact key [] l 1 h (by omega) (by omega)

theorem many_none (c : C6) (w : World) (h : c.chk ≠ 0) :
    Calls Try.prog 11 #[.agg #[.int .i64 c.v, .int .i64 c.d, .int .i64 c.h, .int .i64 c.l, .int .i64 c.c, .int .i64 c.x]] w fun e w' =>
      e = .returned (.tuple #[.int .i64 0, .int .i64 c.chk]) ∧ Below w.heap.size w w' := by
  have hne : (c.chk != 0) = true := by simpa using h
  have hb0 : Below w.heap.size w (w.alloc (.cells #[.int .i64 c.v, .int .i64 c.d, .int .i64 c.h, .int .i64 c.l, .int .i64 c.c, .int .i64 c.x] 23)) := (Below.refl _ _).alloc (Nat.le_refl _) _
  have HB := Lib.hid hb0
  clear hb0 h
  go_enter Try.func11, Try.ntmps11
  go_wp2_with fail
  with_reducible refine Calls.mono (check_any c _) ?_
  rintro e w1 ⟨rfl, hb⟩
  have HB1 := Lib.hid hb
  clear hb
  go_wp2_with fail
  go_ret2
  exact ⟨rfl, HB.out.trans (HB1.out.mono (by simp))⟩

set_option maxRecDepth 100000 in
set_option maxHeartbeats 2000000 in
theorem many_some (c : C6) (w : World) (h : c.chk = 0) :
    Calls Try.prog 11 #[.agg #[.int .i64 c.v, .int .i64 c.d, .int .i64 c.h, .int .i64 c.l, .int .i64 c.c, .int .i64 c.x]] w fun e w' =>
      e = .returned (.tuple #[.int .i64 (1 + rowsSum (blks c)), .int .i64 0]) ∧ Below w.heap.size w w' := by
  obtain ⟨w1, hw1⟩ : ∃ w1, w1 = w.alloc (.cells #[.int .i64 c.v, .int .i64 c.d, .int .i64 c.h, .int .i64 c.l, .int .i64 c.c, .int .i64 c.x] 23) := ⟨_, rfl⟩
  have hb1 : Below w.heap.size w w1 := by rw [hw1]; exact (Below.refl _ _).alloc (Nat.le_refl _) _
  have hC1 : CfAt w1 w.heap.size c := by rw [hw1]; exact heap_alloc_new w _
  have hs1 : w1.heap.size = w.heap.size + 1 := by rw [hw1]; simp
  have HW := Lib.hid hw1
  have H1 := Lib.hid (And.intro hb1 (And.intro hC1 hs1))
  have HC := Lib.hid h
  clear hw1 hb1 hC1 hs1 h
  refine (callsIn_wide (n := 9)).1 ?_
  refine callsIn_of_wp_marks Try.func11 rfl trivial ?_ rfl
  simp only [Try.ntmps11, List.size_toArray, List.length_cons, List.length_nil, Nat.reduceAdd, Nat.reduceSub, Array.replicate_succ, Array.replicate_zero, List.push_toArray, List.append_toArray, List.nil_append, List.cons_append]
  gi_wp2_with fail
  refine ⟨trivial, ?_⟩
  with_reducible refine CallsIn.mono (callsIn_wide.2 (check_any c _)) ?_
  rintro e w2 ⟨rfl, hb2⟩
  rw [← HW.out] at hb2
  have hC2 : CfAt w2 w.heap.size c := (hb2.block _ (by have := H1.out.2.2; omega)).trans H1.out.2.1
  have hcells := cf_all (alloc_keep w2 (.cells #[.int .i64 1] 3) hC2)
  have h2 : w.heap.size + 1 ≤ w2.heap.size := by have := hb2.size; have := H1.out.2.2; omega
  have H2 := Lib.hid (And.intro hC2 (And.intro h2 (H1.out.1.trans (hb2.mono (by have := H1.out.2.2; omega)))))
  have hz := HC.out
  clear hb2 hC2
  obtain ⟨hx0, hx1, hx2, hx3, hx4, hx5⟩ := hcells
  obtain ⟨g0, g1, g2, g3, g4, g5⟩ := bounds_of hz
  have HZ := Lib.hid (And.intro g0 (And.intro g1 (And.intro g2 (And.intro g3 (And.intro g4 g5)))))
  clear g0 g1 g2 g3 g4 g5
  gi_wp2_with fail
  refine ⟨trivial, ?_⟩
  with_reducible refine CallsIn.mono (callsIn_wide.2 (blocks_any c _ HZ.out.2.2.2.1.1 HZ.out.2.2.2.1.2)) ?_
  rintro e w3 ⟨q, rfl, hs, hb3⟩
  gi_wp2_with fail
  obtain ⟨v, hv, hr⟩ := hs.out.ex
  have hlen : 0 < (blks c).length := by rw [blks_length]; omega
  obtain ⟨g, cap, rfl, hbg, hgl⟩ := hr.form hlen
  have hlen2 : (blks c).length ≤ 1000 := by rw [blks_length]; have := HZ.out.2.2.2.1; omega
  have hbox : Boxed w3 w2.heap.size 3 (.int .i64 1) := (hb3.block _ (by simp)).trans (heap_alloc_new w2 _)
  have hw2 : w.heap.size + 1 ≤ w2.heap.size := H2.out.2.1
  have hgb : w2.heap.size + 1 ≤ g := by simpa using hbg
  have hwb : Below w.heap.size w w3 := H2.out.2.2.trans (((Below.refl _ _).alloc (Nat.le_refl _) _).trans (hb3.mono (by simp)) |>.mono (by omega))
  refine wpIn_rangeFunc_ownH rfl (by omega) (gf := 67) (lb := #[.pointer (some ⟨q, 0, none⟩)]) rfl trivial (enters_of Try.func67 (by kernel_rfl) rfl)
    (values_stops 8 (by omega) w3 _ q (· = g) (blks c) hlen2 (by intro h; rw [h] at hlen; simp at hlen) hs.out (by
      intro v' hv' g' hg'
      have := boxed_inj hv hv'
      subst this
      simpa [Value.ownBlock] using hg'.symm) (by intro k hk; omega)) KeepS.trans (keepS_b (by intro k hk; omega)) (Below.refl _ _) (fun _ => rfl)
    (fun pre W => (Boxed W w2.heap.size 3 (.int .i64 (rowsW pre)) ∧ Below w.heap.size w W) ∧ w3.heap.size ≤ W.heap.size)
    (fun _ _ _ => False)
    (OwnFrom.and (OwnFrom.and (Own.from (boxed_own _ _ _) _) (ownFrom_below (Nat.le_refl _) (by omega))) (fun s A B row hs hg hr => Nat.le_trans hs hg.size))
    (fun _ _ _ _ _ hs _ _ => hs)
    ⟨⟨by simpa [rowsW] using hbox, hwb⟩, Nat.le_refl _⟩
    (fun x a' W => ∃ Bx, w2.heap.size ≠ Bx ∧ g ≠ Bx ∧ W.heap[Bx]? = some (.cells x.cells.toArray 77 (0, 0)) ∧ a' = { tmps := #[.agg #[.int .i64 c.v, .int .i64 c.d, .int .i64 c.h, .int .i64 c.l, .int .i64 c.c, .int .i64 c.x], .pointer (some ⟨w.heap.size, 0, none⟩), .int .i64 0, .int .i64 0, .int .i64 0, .pointer (some ⟨w2.heap.size, 0, none⟩), .pointer (some ⟨Bx, 0, none⟩), .agg #[.int .i64 c.v, .int .i64 c.d, .int .i64 c.h, .int .i64 c.l, .int .i64 c.c, .int .i64 c.x], .int .i64 0, .int .i64 0, .bool false, undef, .agg #[.int .i64 c.v, .int .i64 c.d, .int .i64 c.h, .int .i64 c.l, .int .i64 c.c, .int .i64 c.x], .func (.func 67) #[] #[.pointer (some ⟨q, 0, none⟩)], x.val, undef, undef, undef, undef, undef], defers := [] })
    ?hax ?assign ?body ?done ?stop
  case hax =>
    rintro x a' _ X Y row ⟨Bx, h1, h2, h3, h4⟩ hg hrow
    refine ⟨Bx, h1, h2, (hg.block Bx (Array.getElem?_eq_some_iff.1 h3).1 (fun e => ?_)).trans h3, h4⟩
    obtain ⟨_, o, ho, hc⟩ := hrow Bx e.symm
    rw [h3] at ho; cases ho; cases hc
  case assign =>
    rintro l pre x W K ⟨⟨hi, hB⟩, hle⟩ hK
    simp only [Blk.val]
    have hlt := hi.lt
    gi_wp2
    refine hK _ _ ((KeepsOthers.alloc _ _).from _) ((KeepS.refl _ W).alloc (by intro k hk; omega) _) ⟨⟨hi.alloc _, hB.alloc (by have := hB.size; omega) _⟩, by simp; omega⟩ ⟨W.heap.size, by omega, by omega, heap_alloc_new W _, rfl⟩
  case body =>
    rintro l pre x a' W hl ⟨r, hrl⟩ ⟨⟨hi, hB⟩, hle⟩ ⟨Bx, hx1, hx2, hx3, rfl⟩ hlt
    have hcn := hi.cell
    have hfn := hi.frozen
    have hcr : W.cell? ⟨Bx, 2, none⟩ = some (.int .i64 x.rows) := by rw [cell_of_row W Bx 2 _ _ _ hx3]; rfl
    simp only [Blk.val]
    gi_wp2
    refine ⟨(KeepsOthers.setCell _ _ _).from _, (KeepS.refl _ W).setCell 0 (by omega) _, ⟨⟨by rw [rowsW_snoc]; exact hi.set _, hB.setCell (p := ⟨w2.heap.size, 0, none⟩) (by simp; omega) _⟩, by simpa [World.setCell] using hle⟩⟩
  case done =>
    rintro D ys W hD rfl ⟨⟨hi, hB⟩, hle⟩ hK
    have hcn := hi.cell
    have HR : Hid (rowsW (blks c) = 1 + rowsSum (blks c)) := rowsW_eq _ hlen2 (fun b hb => rows_bound HC.out hb)
    gi_wp2
    refine ⟨by simp, .inl ⟨_, _, rfl, run_takeDeferred hK, ?_⟩⟩
    refine ⟨_, results_tmp2 rfl _ _ _, ?_, hB.trans (belowK_b (w := w) (Nat.le_refl _) W D _ _ (by have := hwb.size; omega) hK rfl rfl)⟩
    simp [HR.out]
  case stop =>
    rintro D cc pre W _ _ h _
    exact h.elim

theorem many_any (c : C6) (w : World) :
    Calls Try.prog 11 #[.agg #[.int .i64 c.v, .int .i64 c.d, .int .i64 c.h, .int .i64 c.l, .int .i64 c.c, .int .i64 c.x]] w fun e w' =>
      e = .returned (.tuple #[.int .i64 (if c.chk = 0 then 1 + rowsSum (blks c) else 0), .int .i64 c.chk]) ∧ Below w.heap.size w w' := by
  by_cases h : c.chk = 0
  · rw [if_pos h, h]
    exact many_some c w h
  · rw [if_neg h]
    exact many_none c w h
end Go.Proofs.Ytlgoclfdjlmjnaa.Cfg
