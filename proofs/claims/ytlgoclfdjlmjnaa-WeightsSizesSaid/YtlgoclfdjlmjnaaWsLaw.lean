import Derived.Test.YtlgoclfdjlmjnaaRefPl
namespace Go.Proofs.Ytlgoclfdjlmjnaa.Cfg
open Go.RowKit Go.Shelf

theorem placeL_range (p : P3) (l : List Blk) (s : Int) (hs : 0 ≤ s) (h : ∀ b ∈ l, 0 ≤ b.rows) : ((placeL p l s).2 = 0 ∧ 0 ≤ (placeL p l s).1) ∨ ((placeL p l s).1 = 0 ∧ (placeL p l s).2 = 10) := by
  induction l generalizing s with
  | nil => right; exact ⟨rfl, rfl⟩
  | cons b l ih =>
    have hb := h b (by simp)
    simp only [placeL]
    split
    · split
      · right; exact ⟨rfl, rfl⟩
      · left; refine ⟨rfl, ?_⟩; simp only; omega
    · exact ih _ (by omega) (fun x hx => h x (by simp [hx]))

theorem awake_any (w : World) : Calls Try.prog 14 #[] w fun e w' => e = .returned (.bool true) ∧ Below w.heap.size w w' := by
  have hm : ∀ W : World, Calls Try.prog 11 #[.agg #[.int .i64 3, .int .i64 2, .int .i64 1, .int .i64 1, .int .i64 4, .int .i64 1]] W fun e w' => e = .returned (.tuple #[.int .i64 22, .int .i64 0]) ∧ Below W.heap.size W w' := fun W => many_any ⟨3, 2, 1, 1, 4, 1⟩ W
  have hp : ∀ W : World, Calls Try.prog 12 #[.agg #[.int .i64 3, .int .i64 2, .int .i64 1, .int .i64 1, .int .i64 4, .int .i64 1], .agg #[.int .i64 3, .int .i64 0, .int .i64 1]] W fun e w' => e = .returned (.tuple #[.int .i64 6, .int .i64 0]) ∧ Below W.heap.size W w' := fun W => place_any ⟨3, 2, 1, 1, 4, 1⟩ ⟨3, 0, 1⟩ W (by decide)
  obtain ⟨w1, hw1⟩ : ∃ w1, w1 = w.alloc (.cells #[.int .i64 3, .int .i64 2, .int .i64 1, .int .i64 1, .int .i64 4, .int .i64 1] 23) := ⟨_, rfl⟩
  have hC : CfAt w1 w.heap.size ⟨3, 2, 1, 1, 4, 1⟩ := by rw [hw1]; exact heap_alloc_new _ _
  have hB : Below w.heap.size w w1 := by rw [hw1]; exact (Below.refl _ _).alloc (Nat.le_refl _) _
  have hS : w1.heap.size = w.heap.size + 1 := by rw [hw1]; simp
  have HM := Lib.hid hm
  have HP := Lib.hid hp
  have HW := Lib.hid hw1
  have H1 := Lib.hid (And.intro hC (And.intro hB hS))
  clear hm hp hw1 hC hB hS
  go_enter Try.func14, Try.ntmps14
  go_wp2_with fail
  rw [← HW.out]
  with_reducible refine Calls.mono (HM.out _) ?_
  rintro e w2 ⟨rfl, hb⟩
  obtain ⟨hx0, hx1, hx2, hx3, hx4, hx5⟩ := cf_all (c := ⟨3, 2, 1, 1, 4, 1⟩) ((hb.block _ (by have := H1.out.2.2; omega)).trans H1.out.1)
  have HB2 := Lib.hid hb
  clear hb
  go_wp2_with fail
  with_reducible refine Calls.mono (HP.out _) ?_
  rintro e w3 ⟨rfl, hb⟩
  have HB3 := Lib.hid hb
  clear hb
  go_wp2_with fail
  go_ret
  exact ⟨rfl, (H1.out.2.1.trans (HB2.out.mono (by have := H1.out.2.2; omega))).trans (HB3.out.mono (by have := HB2.out.size; have := H1.out.2.2; omega))⟩

structure LS (w W : World) (N : Nat) (c : C6) (p : P3) : Prop where
  eq : N = w.heap.size
  b0 : W.heap[N]? = some (.cells #[.int .i64 c.v, .int .i64 c.d, .int .i64 c.h, .int .i64 c.l, .int .i64 c.c, .int .i64 c.x] 23 (0, 0))
  b1 : W.heap[N + 1]? = some (.cells #[.int .i64 p.kind, .int .i64 p.layer, .int .i64 p.row] 25 (0, 0))
  below : Below N w W
structure LS2 (w W : World) (N : Nat) (c : C6) (p : P3) (S : Nat) : Prop where
  ls : LS w W N c p
  b2 : W.heap[S]? = some (.cells #[.int .i64 c.v, .int .i64 c.d, .int .i64 c.h, .int .i64 c.l, .int .i64 c.c, .int .i64 c.x] 27 (0, 0))
theorem LS.next {w W W' : World} {N : Nat} {c : C6} {p : P3} (h : LS w W N c p) (hb : Below W.heap.size W W') : LS w W' N c p := by
  refine ⟨h.eq, (hb.block _ (Array.getElem?_eq_some_iff.1 h.b0).1).trans h.b0, (hb.block _ (Array.getElem?_eq_some_iff.1 h.b1).1).trans h.b1, h.below.trans (hb.mono ?_)⟩
  have := h.below.size; have := h.eq; omega
theorem LS2.next {w W W' : World} {N : Nat} {c : C6} {p : P3} {S : Nat} (h : LS2 w W N c p S) (hb : Below W.heap.size W W') : LS2 w W' N c p S :=
  ⟨h.ls.next hb, (hb.block _ (Array.getElem?_eq_some_iff.1 h.b2).1).trans h.b2⟩
theorem LS2.cells {w W : World} {N : Nat} {c : C6} {p : P3} {S : Nat} (h : LS2 w W N c p S) : W.cell? ⟨N, 0, none⟩ = some (.int .i64 c.v) ∧ W.cell? ⟨N, 1, none⟩ = some (.int .i64 c.d) ∧ W.cell? ⟨N, 2, none⟩ = some (.int .i64 c.h) ∧ W.cell? ⟨N, 3, none⟩ = some (.int .i64 c.l) ∧ W.cell? ⟨N, 4, none⟩ = some (.int .i64 c.c) ∧ W.cell? ⟨N, 5, none⟩ = some (.int .i64 c.x) ∧ W.cell? ⟨N + 1, 0, none⟩ = some (.int .i64 p.kind) ∧ W.cell? ⟨N + 1, 1, none⟩ = some (.int .i64 p.layer) ∧ W.cell? ⟨N + 1, 2, none⟩ = some (.int .i64 p.row) ∧ W.cell? ⟨S, 0, none⟩ = some (.int .i64 c.v) ∧ W.cell? ⟨S, 1, none⟩ = some (.int .i64 c.d) ∧ W.cell? ⟨S, 2, none⟩ = some (.int .i64 c.h) ∧ W.cell? ⟨S, 3, none⟩ = some (.int .i64 c.l) ∧ W.cell? ⟨S, 4, none⟩ = some (.int .i64 c.c) ∧ W.cell? ⟨S, 5, none⟩ = some (.int .i64 c.x) := by
  have h0 := h.ls.b0
  have h1 := h.ls.b1
  have h2 := h.b2
  refine ⟨?_, ?_, ?_, ?_, ?_, ?_, ?_, ?_, ?_, ?_, ?_, ?_, ?_, ?_, ?_⟩
  all_goals first | (rw [cell_of_row W _ _ _ _ _ h0]; rfl) | (rw [cell_of_row W _ _ _ _ _ h1]; rfl) | (rw [cell_of_row W _ _ _ _ _ h2]; rfl)
theorem LS.start (w : World) (c : C6) (p : P3) : LS w ((w.alloc (.cells #[.int .i64 c.v, .int .i64 c.d, .int .i64 c.h, .int .i64 c.l, .int .i64 c.c, .int .i64 c.x] 23)).alloc (.cells #[.int .i64 p.kind, .int .i64 p.layer, .int .i64 p.row] 25)) w.heap.size c p := by
  refine ⟨rfl, (Below.heap_alloc _ _ _ (by simp)).trans (heap_alloc_new _ _), ?_, ((Below.refl _ _).alloc (Nat.le_refl _) _).alloc (by simp) _⟩
  have e : (w.alloc (.cells #[.int .i64 c.v, .int .i64 c.d, .int .i64 c.h, .int .i64 c.l, .int .i64 c.c, .int .i64 c.x] 23)).heap.size = w.heap.size + 1 := by simp
  rw [← e]; exact heap_alloc_new _ _
theorem LS.sizes {w W : World} {N : Nat} {c : C6} {p : P3} (h : LS w W N c p) : LS2 w (W.alloc (.cells #[.int .i64 c.v, .int .i64 c.d, .int .i64 c.h, .int .i64 c.l, .int .i64 c.c, .int .i64 c.x] 27)) N c p W.heap.size :=
  ⟨h.next ((Below.refl _ _).alloc (Nat.le_refl _) _), heap_alloc_new _ _⟩

set_option maxRecDepth 100000 in
set_option maxHeartbeats 4000000 in
theorem law (c : C6) (p : P3) (w : World) (hrow : -9223372036854775808 ≤ p.row ∧ p.row ≤ 9223372036854775807) :
    Calls Try.prog 3 #[.agg #[.int .i64 c.v, .int .i64 c.d, .int .i64 c.h, .int .i64 c.l, .int .i64 c.c, .int .i64 c.x], .agg #[.int .i64 p.kind, .int .i64 p.layer, .int .i64 p.row]] w fun e w' => e = .returned (.bool true) ∧ Below w.heap.size w w' := by
  have Q0 := Lib.hid (LS.start w c p)
  have HR := Lib.hid hrow
  clear hrow
  obtain ⟨N, hN⟩ : ∃ N, N = w.heap.size := ⟨_, rfl⟩
  have HN := Lib.hid hN
  go_enter Try.func3, Try.ntmps3
  go_wp2_with fail
  with_reducible refine Calls.mono (sizes_any c _) ?_
  rintro e W1 ⟨rfl, hb⟩
  have Q1 := Lib.hid ((Q0.out.next hb).sizes)
  clear hb
  obtain ⟨a0, a1, a2, a3, a4, a5, a6, a7, a8, a9, a10, a11, a12, a13, a14⟩ := Q1.out.cells
  go_wp2_with fail
  with_reducible refine Calls.mono (refCheck_any c _) ?_
  rintro e W2 ⟨rfl, hb⟩
  have Q2 := Lib.hid (Q1.out.next hb)
  clear hb a0 a1 a2 a3 a4 a5 a6 a7 a8 a9 a10 a11 a12 a13 a14
  obtain ⟨a0, a1, a2, a3, a4, a5, a6, a7, a8, a9, a10, a11, a12, a13, a14⟩ := Q2.out.cells
  go_wp2_with fail
  with_reducible refine Calls.mono (many_any c _) ?_
  rintro e W3 ⟨rfl, hb⟩
  have Q3 := Lib.hid (Q2.out.next hb)
  clear hb a0 a1 a2 a3 a4 a5 a6 a7 a8 a9 a10 a11 a12 a13 a14
  obtain ⟨a0, a1, a2, a3, a4, a5, a6, a7, a8, a9, a10, a11, a12, a13, a14⟩ := Q3.out.cells
  obtain ⟨m, hm⟩ : ∃ m, m = if c.chk = 0 then 1 + rowsSum (blks c) else 0 := ⟨_, rfl⟩
  have HM := Lib.hid hm
  rw [← hm]
  clear hm
  go_wp2_with fail
  with_reducible refine Calls.mono (place_any c p _ HR.out) ?_
  rintro e W4 ⟨rfl, hb⟩
  have Q4 := Lib.hid (Q3.out.next hb)
  clear hb a0 a1 a2 a3 a4 a5 a6 a7 a8 a9 a10 a11 a12 a13 a14
  obtain ⟨a0, a1, a2, a3, a4, a5, a6, a7, a8, a9, a10, a11, a12, a13, a14⟩ := Q4.out.cells
  obtain ⟨x, hx⟩ : ∃ x, x = (c.place p).1 := ⟨_, rfl⟩
  obtain ⟨y, hy⟩ : ∃ y, y = (c.place p).2 := ⟨_, rfl⟩
  have HX := Lib.hid hx
  have HY := Lib.hid hy
  rw [← hx, ← hy]
  clear hx hy
  go_wp2_with fail
  with_reducible refine Calls.mono (check_any c _) ?_
  rintro e W5 ⟨rfl, hb⟩
  have Q5 := Lib.hid (Q4.out.next hb)
  clear hb a0 a1 a2 a3 a4 a5 a6 a7 a8 a9 a10 a11 a12 a13 a14
  obtain ⟨a0, a1, a2, a3, a4, a5, a6, a7, a8, a9, a10, a11, a12, a13, a14⟩ := Q5.out.cells
  have fin : ∀ W : World, Below W5.heap.size W5 W → Below w.heap.size w W := fun W hb => by
    have := (Q5.out.next hb).ls
    have e := this.eq
    have b := this.below
    rwa [e] at b
  by_cases hz : c.chk = 0
  · have hm2 : m = 1 + rowsSum (blks c) := by rw [HM.out, if_pos hz]
    have hpl : x = (placeL p (blks c) 1).1 ∧ y = (placeL p (blks c) 1).2 := by rw [HX.out, HY.out]; unfold C6.place; rw [if_pos hz]; exact ⟨rfl, rfl⟩
    have hrg := placeL_range p (blks c) 1 (by omega) (fun b hb => by have := rows_bound hz hb; omega)
    have hrp : refPlace p (blks c) = if y = 0 then x else -1 := by unfold refPlace; rw [hpl.1, hpl.2]
    rw [← hpl.1, ← hpl.2] at hrg
    have HZ := Lib.hid hz
    have HF := Lib.hid (And.intro hm2 (And.intro hrp fin))
    clear hm2 hpl hrp fin
    go_wp2_with fail
    with_reducible refine Calls.mono (refMany_any c _ HZ.out) ?_
    rintro e W6 ⟨rfl, hb⟩
    rw [← HF.out.1]
    have Q6 := Lib.hid (And.intro (Q5.out.next hb) hb)
    clear hb a0 a1 a2 a3 a4 a5 a6 a7 a8 a9 a10 a11 a12 a13 a14
    obtain ⟨a0, a1, a2, a3, a4, a5, a6, a7, a8, a9, a10, a11, a12, a13, a14⟩ := Q6.out.1.cells
    go_wp2_with fail
    with_reducible refine Calls.mono (refPlace_any c p _ HZ.out) ?_
    rintro e W7 ⟨rfl, hb⟩
    rw [HF.out.2.1]
    have Q7 := Lib.hid (Q6.out.2.trans (hb.mono Q6.out.2.size))
    clear hb a0 a1 a2 a3 a4 a5 a6 a7 a8 a9 a10 a11 a12 a13 a14
    rcases hrg with ⟨rfl, hx0⟩ | ⟨rfl, rfl⟩
    · rw [if_pos rfl]
      go_wp2_with fail
      with_reducible refine Calls.mono (awake_any _) ?_
      rintro e W8 ⟨rfl, hb⟩
      have Q8 := Lib.hid (HF.out.2.2 _ (Q7.out.trans (hb.mono Q7.out.size)))
      clear hb
      go_wp2_with fail
      go_ret
      exact ⟨rfl, Q8.out⟩
    · rw [if_neg (by decide)]
      go_wp2_with fail
      with_reducible refine Calls.mono (awake_any _) ?_
      rintro e W8 ⟨rfl, hb⟩
      have Q8 := Lib.hid (HF.out.2.2 _ (Q7.out.trans (hb.mono Q7.out.size)))
      clear hb
      go_wp2_with fail
      go_ret
      exact ⟨rfl, Q8.out⟩
  · have hm2 : m = 0 := by rw [HM.out, if_neg hz]
    have hpl : x = 0 ∧ y = c.chk := by rw [HX.out, HY.out]; unfold C6.place; rw [if_neg hz]; exact ⟨rfl, rfl⟩
    obtain ⟨hx, hy⟩ := hpl
    subst hx hm2
    have hne : (c.chk != 0) = true := by simpa using hz
    obtain ⟨ck, hck⟩ : ∃ ck, ck = c.chk := ⟨_, rfl⟩
    rw [← hck] at hy hne ⊢
    subst hy
    have HF := Lib.hid fin
    clear hz fin hck HX HY HM
    go_wp2_with fail
    with_reducible refine Calls.mono (awake_any _) ?_
    rintro e W8 ⟨rfl, hb⟩
    have Q8 := Lib.hid (HF.out _ hb)
    clear hb
    go_wp2_with fail
    go_ret
    exact ⟨rfl, Q8.out⟩
end Go.Proofs.Ytlgoclfdjlmjnaa.Cfg
