/- A row of a matrix; a clone of ints. -/
import Derived.Test.YtfhaebaegkpkhaaTen
import Derived.Test.YtfhaebaegkpkhaaModAt
import Derived.Test.YtfhaebaegkpkhaaRev
import Derived.Lib.SliceRun
set_option linter.unusedVariables false
set_option linter.unusedSimpArgs false
namespace Go.Proofs.Ytfhaebaegkpkhaa.OwnS
open Go Go.RowKit RevL
section
variable {w : World} {size n : Nat} {xs : List Value}
theorem Sees.takes {g o cap k c : Nat} (h : Sees w size (.slice (some ⟨g, o, none⟩) n cap) n xs) (hk : k ≤ n) (hc : k ≤ c ∧ c ≤ cap) : Sees w size (.slice (some ⟨g, o, none⟩) k c) k (xs.take (k * size)) := by
  have hm := Nat.mul_le_mul_right size hk
  refine ⟨by rw [List.length_take, h.1]; omega, ?_⟩
  rcases h.2 with ⟨h0, A, cap', e, h1⟩ | ⟨g', o', cap', e, h1, h2, h3⟩
  · injection e with e1 e2 e3
    subst e3
    obtain rfl : k = 0 := by omega
    exact .inl ⟨rfl, _, _, rfl, by omega⟩
  · injection e with e1 e2 e3
    injection e1 with e1
    injection e1 with e1 e4
    subst e1 e3 e4
    exact .inr ⟨g, o, c, rfl, by omega, by omega, rangeAt_take h3⟩
theorem Sees.cut {g o cap k : Nat} (h : Sees w size (.slice (some ⟨g, o, none⟩) n cap) n xs) (hk : k ≤ n) (a : Addr) (ha : (cap = k ∧ a = ⟨g, o, none⟩) ∨ a = ⟨g, o + k * size, none⟩) : Sees w size (.slice (some a) (n - k) (cap - k)) (n - k) (xs.drop (k * size)) := by
  have hm := Nat.mul_le_mul_right size hk
  refine ⟨by rw [List.length_drop, h.1, Nat.sub_mul], ?_⟩
  rcases h.2 with ⟨h0, A, cap', e, h1⟩ | ⟨g', o', cap', e, h1, h2, h3⟩
  · injection e with e1 e2 e3
    subst e3
    exact .inl ⟨by omega, _, _, by rw [show n - k = 0 by omega], by omega⟩
  · injection e with e1 e2 e3
    injection e1 with e1
    injection e1 with e1 e4
    subst e1 e3 e4
    rcases ha with ⟨hcap, rfl⟩ | rfl
    · exact .inl ⟨by omega, _, _, by rw [show n - k = 0 by omega], by omega⟩
    · exact .inr ⟨g, _, _, rfl, by omega, by omega, rangeAt_drop h3⟩
end
end Go.Proofs.Ytfhaebaegkpkhaa.OwnS
namespace Go.Proofs.Ytfhaebaegkpkhaa.Ten
open Go.RowKit OwnS Byt Cfg QTail
attribute [local go_sem ↓] Kit.execOp_call_slot
attribute [local go_sem] Kit.callSlot_func
set_option maxRecDepth 100000 in
theorem clone_ints (W : World) (v : Value) (l : List Int) (h : Ints W v l) (hl : l.length ≤ 1000000) : Calls Try.prog 71 #[v] W (IntsPost W l) := by
  have qT : ∀ (w : World) (a : Option Addr) (n c n' c' : Nat), (binOp .eql 26 (.slice a n c) (.slice none n' c')).run Try.prog w = .ok (.bool a.isNone) w := fun w a n c n' c' => Lib.run_eql_slice_nil w _ _ a n c n' c' Try.underlying26
  obtain ⟨a, cap, rfl, h2, h3⟩ := Sees.form h
  obtain ⟨n, hn⟩ : ∃ n, n = l.length := ⟨_, rfl⟩
  unfold Ints at h
  unfold IntsPost
  rw [← hn] at h h2 hl ⊢
  cases a with
  | none =>
    have hn0 : n = 0 := by
      rcases Nat.eq_zero_or_pos n with h0 | h0
      · exact h0
      · obtain ⟨g, o, cap', e, -⟩ := h.holds h0
        cases e
    have : intsV l = [] := by
      have : l.length = 0 := by omega
      rw [List.eq_nil_of_length_eq_zero this]; rfl
    rw [this]
    subst hn0
    clear hn this
    go_enter Try.func71, Try.ntmps71
    go_wp2_with fail
    go_ret
    exact ⟨none, 0, rfl, Owns.nil _ _ _, Below.refl _ _⟩
  | some a =>
    have hlit : Owns (W.alloc (.cells #[] 3)) W.heap.size 1 (.slice (some ⟨W.heap.size, 0, none⟩) 0 0) 0 [] := Owns.whole (heap_alloc_new W _) (Nat.le_refl _) rfl (by unfold maxLen; omega)
    have hsee : Sees (W.alloc (.cells #[] 3)) 1 (.slice (some a) n cap) n (intsV l) := h.new ((Below.refl _ _).alloc (Nat.le_refl _) _)
    have H := Lib.hid (And.intro hlit (And.intro hsee (intsV_one l)))
    clear hlit hsee h h2 h3 hn
    go_enter Try.func71, Try.ntmps71
    go_wp2_with (at_builtin; refine wpList_append rfl (.tmp 5) (.tmp 6) 26 26 rfl W.heap.size 3 _ 1 8 Try.underlying26 infoI _ 0 [] rfl (by exact H.out.1) _ n (intsV l) rfl (by exact src_of_sees _ Try.underlying26 H.out.2.1 H.out.2.2) (by unfold maxLen; omega) (by omega) (by simp) ?_; intro A c w1 hown hgrow hbl; simp only [Nat.zero_add, List.nil_append] at hown; have HO := Lib.hid (And.intro hown hgrow); clear hown hgrow hbl)
    go_ret
    simp only [Nat.zero_add]
    exact ⟨A, c, rfl, HO.out.1, ((Below.refl _ _).alloc (Nat.le_refl _) _).grown HO.out.2 (by simp) (fun k e => by cases e; exact Nat.le_refl _)⟩
/-- A row's numbers. -/
def rowOf (c k : Nat) (l : List Int) : List Int := (l.drop (k * c)).take c
set_option maxRecDepth 100000 in
set_option maxHeartbeats 1000000 in
theorem row_in (W : World) (v : Value) (r c k : Nat) (l : List Int) (h : Ints W v l) (hl : l.length = r * c) (hk : k < r) (hc : 1 ≤ c ∧ c ≤ 64) (hr : r ≤ 512) :
    Calls Try.prog 74 #[.agg #[.int .i64 (r : Int), .int .i64 (c : Int), v], .int .i64 (k : Int)] W fun e w' => ∃ A z, e = .returned (.slice A c z) ∧ Ints w' (.slice A c z) (rowOf c k l) ∧ (rowOf c k l).length = c ∧ Below W.heap.size W w' := by
  obtain ⟨a, cap, rfl, h2, h3⟩ := Sees.form h
  have hm1 : (k + 1) * c ≤ r * c := Nat.mul_le_mul_right c hk
  have hm2 : r * c ≤ 512 * 64 := Nat.mul_le_mul hr hc.2
  obtain ⟨lo, hlo⟩ : ∃ lo, lo = k * c := ⟨_, rfl⟩
  have hhi : (k + 1) * c = lo + c := by rw [hlo, Nat.add_mul, Nat.one_mul]
  obtain ⟨g, o, rfl⟩ := some_addr h (by omega)
  have hloI : (k : Int) * (c : Int) = (lo : Int) := by rw [hlo, Int.natCast_mul]
  have hhiI : ((k : Int) + 1) * (c : Int) = ((lo + c : Nat) : Int) := by rw [← hhi, Int.natCast_mul]; rfl
  obtain ⟨n, hn⟩ : ∃ n, n = l.length := ⟨_, rfl⟩
  obtain ⟨hi, hh⟩ : ∃ hi, hi = lo + c := ⟨_, rfl⟩
  rw [← hh] at hhiI
  have q1 : lo ≤ hi := by omega
  have q2 : hi ≤ n := by omega
  have q3 : n ≤ cap := by omega
  have q4 : n ≤ 32768 := by omega
  rw [← hn]
  have q5 : ¬ cap = lo := by omega
  have hrl : (rowOf c k l).length = c := by unfold rowOf; rw [List.length_take, List.length_drop, ← hlo, ← hn]; omega
  have hse : Ints W (.slice (some ⟨g, o + lo, none⟩) c (cap - lo)) (rowOf c k l) := by
    unfold Ints at h ⊢
    rw [hrl]
    have h7 := (Sees.cut h (k := lo) (by omega) ⟨g, o + lo * 1, none⟩ (.inr rfl)).takes (k := c) (c := cap - lo) (by omega) ⟨by omega, Nat.le_refl _⟩
    rw [Nat.mul_one, Nat.mul_one, intsV_drop, intsV_take, hlo] at h7
    unfold rowOf
    rw [hlo]
    exact h7
  have H := Lib.hid (And.intro hse hrl)
  have q6 : hi - lo = c := by omega
  have q7 : c = hi - lo := by omega
  clear h hlo hn hh hl h2 hm1 hm2 hhi hc hse hrl q6
  go_enter Try.func74, Try.ntmps74
  have HQ := Lib.hid q7
  clear q7
  go_wp2_with fail
  go_ret
  rw [← HQ.out]
  exact ⟨_, _, rfl, H.out.1.new ((Below.refl _ _).alloc (Nat.le_refl _) _), H.out.2, (Below.refl _ _).alloc (Nat.le_refl _) _⟩
theorem matErr_facts {r c : Nat} {l : List Int} (h : matErr ⟨r, c, l⟩ = 0) : (1 ≤ r ∧ r ≤ 512) ∧ (1 ≤ c ∧ c ≤ 64) ∧ l.length = r * c := by
  unfold matErr at h
  simp only at h
  split at h
  · cases h
  · rename_i hn
    have h1 : ¬ ((r : Int) < 1) := fun x => hn (.inl x)
    have h2 : ¬ (512 < (r : Int)) := fun x => hn (.inr (.inl x))
    have h3 : ¬ ((c : Int) < 1) := fun x => hn (.inr (.inr (.inl x)))
    have h4 : ¬ (64 < (c : Int)) := fun x => hn (.inr (.inr (.inr (.inl x))))
    have h5 : (l.length : Int) = (r : Int) * (c : Int) := by
      rcases Classical.em ((l.length : Int) = (r : Int) * (c : Int)) with h | h
      · exact h
      · exact absurd (.inr (.inr (.inr (.inr h)))) hn
    rw [← Int.natCast_mul] at h5
    exact ⟨⟨by omega, by omega⟩, ⟨by omega, by omega⟩, by omega⟩
set_option maxRecDepth 100000 in
set_option maxHeartbeats 2000000 in
/-- No row. -/
theorem Row_none (W : World) (v : Value) (r c : Nat) (l : List Int) (k : Int) (h : Ints W v l) (hm : matErr ⟨r, c, l⟩ = 0) (hk : k < 0 ∨ (r : Int) ≤ k) :
    Calls Try.prog 22 #[.agg #[.int .i64 (r : Int), .int .i64 (c : Int), v], .int .i64 k] W fun e w' => e = .returned (.tuple #[.slice none 0 0, .int .i64 10]) ∧ Below W.heap.size W w' := by
  obtain ⟨w1, hw1⟩ : ∃ w1, w1 = W.alloc (.cells #[.int .i64 (r : Int), .int .i64 (c : Int), v] 28) := ⟨_, rfl⟩
  have hb1 : Below W.heap.size W w1 := by rw [hw1]; exact (Below.refl _ _).alloc (Nat.le_refl _) _
  have hma := mat_any w1 v ⟨r, c, l⟩ (Ints.new h hb1)
  rw [hm] at hma
  obtain ⟨a, cap, rfl, -, -⟩ := Sees.form h
  obtain ⟨n, hn⟩ : ∃ n, n = l.length := ⟨_, rfl⟩
  rw [← hn] at hma hw1 ⊢
  have hblk : w1.heap[W.heap.size]? = some (.cells [Value.int .i64 (r : Int), .int .i64 (c : Int), .slice a n cap].toArray 28 (0, 0)) := by rw [hw1]; exact heap_alloc_new W _
  have k0 : w1.cell? ⟨W.heap.size, 0, none⟩ = some (.int .i64 (r : Int)) := by rw [cell_of_row _ _ 0 _ _ _ hblk]; rfl
  have k1 : w1.cell? ⟨W.heap.size, 1, none⟩ = some (.int .i64 (c : Int)) := by rw [cell_of_row _ _ 1 _ _ _ hblk]; rfl
  have k2 : w1.cell? ⟨W.heap.size, 2, none⟩ = some (.slice a n cap) := by rw [cell_of_row _ _ 2 _ _ _ hblk]; rfl
  have HC := Lib.hid (And.intro hma hb1)
  have HW := Lib.hid hw1
  clear hma hb1 hw1 h hm hn hblk
  have h0 : 0 ≤ (r : Int) := by omega
  rcases (show k < 0 ∨ (¬ k < 0 ∧ (r : Int) ≤ k) by omega) with hk1 | ⟨hk1, hk2⟩
  all_goals
    clear hk
    go_enter Try.func22, Try.ntmps22
    go_upto_region 1 with fail
    rw [← HW.out]
    go_wp2_with (go_at_call 73; (with_reducible refine Calls.mono HC.out.1 ?_); rintro e w2 ⟨rfl, hb2⟩; have k02 := (hb2.cell (block_lt_of_cell k0)).trans k0; have HB := Lib.hid hb2; clear hb2)
    go_ret2
    exact ⟨rfl, below_chain HC.out.2 HB.out⟩
set_option maxRecDepth 100000 in
set_option maxHeartbeats 2000000 in
/-- A row. -/
theorem Row_some (W : World) (v : Value) (r c k : Nat) (l : List Int) (h : Ints W v l) (hm : matErr ⟨r, c, l⟩ = 0) (hk : k < r) :
    Calls Try.prog 22 #[.agg #[.int .i64 (r : Int), .int .i64 (c : Int), v], .int .i64 (k : Int)] W fun e w' => ∃ A z, e = .returned (.tuple #[.slice A c z, .int .i64 0]) ∧ Owns w' W.heap.size 1 (.slice A c z) c (intsV (rowOf c k l)) ∧ (rowOf c k l).length = c ∧ Below W.heap.size W w' := by
  obtain ⟨hr, hc, hl⟩ := matErr_facts hm
  obtain ⟨w1, hw1⟩ : ∃ w1, w1 = W.alloc (.cells #[.int .i64 (r : Int), .int .i64 (c : Int), v] 28) := ⟨_, rfl⟩
  have hb1 : Below W.heap.size W w1 := by rw [hw1]; exact (Below.refl _ _).alloc (Nat.le_refl _) _
  have hma := mat_any w1 v ⟨r, c, l⟩ (Ints.new h hb1)
  rw [hm] at hma
  obtain ⟨a, cap, rfl, -, -⟩ := Sees.form h
  have hrow := fun w (hw : Below w1.heap.size w1 w) => row_in w _ r c k l ((Ints.new h hb1).new hw) hl hk hc hr.2
  obtain ⟨n, hn⟩ : ∃ n, n = l.length := ⟨_, rfl⟩
  rw [← hn] at hma hw1 hrow ⊢
  have hblk : w1.heap[W.heap.size]? = some (.cells [Value.int .i64 (r : Int), .int .i64 (c : Int), .slice a n cap].toArray 28 (0, 0)) := by rw [hw1]; exact heap_alloc_new W _
  have k0 : w1.cell? ⟨W.heap.size, 0, none⟩ = some (.int .i64 (r : Int)) := by rw [cell_of_row _ _ 0 _ _ _ hblk]; rfl
  have k1 : w1.cell? ⟨W.heap.size, 1, none⟩ = some (.int .i64 (c : Int)) := by rw [cell_of_row _ _ 1 _ _ _ hblk]; rfl
  have k2 : w1.cell? ⟨W.heap.size, 2, none⟩ = some (.slice a n cap) := by rw [cell_of_row _ _ 2 _ _ _ hblk]; rfl
  have HC := Lib.hid (And.intro hma (And.intro hb1 (And.intro hrow hc)))
  have HW := Lib.hid hw1
  clear hma hb1 hw1 h hm hn hblk hrow hc hl hr
  have h0 : ¬ (k : Int) < 0 := by omega
  have h1 : ¬ (r : Int) ≤ (k : Int) := by omega
  go_enter Try.func22, Try.ntmps22
  go_upto_region 1 with fail
  rw [← HW.out]
  go_wp2_with (first | (go_at_call 73; (with_reducible refine Calls.mono HC.out.1 ?_); rintro e w2 ⟨rfl, hb2⟩; have k02 := (hb2.cell (block_lt_of_cell k0)).trans k0; have k12 := (hb2.cell (block_lt_of_cell k1)).trans k1; have k22 := (hb2.cell (block_lt_of_cell k2)).trans k2; have HB := Lib.hid hb2; clear hb2) | (go_at_call 74; (with_reducible refine Calls.mono (HC.out.2.2.1 _ HB.out) ?_); rintro e w3 ⟨A3, z3, rfl, hs3, hl3, hb3⟩; have hcl := clone_ints w3 _ _ hs3 (by have := HC.out.2.2.2.2; omega); unfold IntsPost at hcl; rw [hl3] at hcl; have H3 := Lib.hid (And.intro hl3 (And.intro hb3 hcl)); clear hs3 hl3 hb3 hcl) | (go_at_call 71; (with_reducible refine Calls.mono H3.out.2.2 ?_); rintro e w4 ⟨A4, z4, rfl, ho4, hb4⟩; have H4 := Lib.hid (And.intro ho4 hb4); clear ho4 hb4))
  go_ret2
  have hb3 := below_chain HC.out.2.1 (below_chain HB.out H3.out.2.1)
  exact ⟨A4, z4, rfl, H4.out.1.mono hb3.size, H3.out.1, below_chain hb3 H4.out.2⟩
end Go.Proofs.Ytfhaebaegkpkhaa.Ten
