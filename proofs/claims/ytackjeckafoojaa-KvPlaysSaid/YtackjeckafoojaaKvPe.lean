/- The reference's pool: Share. -/
import Derived.Test.YtackjeckafoojaaKvPc
import Derived.Maps.AppendAt
import Derived.StillTailTactics
import Derived.Deep.RegionLaw
set_option linter.unusedVariables false
set_option linter.unusedSimpArgs false
namespace Go.Proofs.Ytackjeckafoojaa.Kv
open Go.RowKit
attribute [local go_sem ↓] Kit.execOp_call_slot
attribute [local go_sem] Kit.callSlot_func
theorem run_append_none (w : World) : (Builtin.append_ #[42, 42] 42 #[.slice none 0 0, .slice none 0 0]).run Try.prog w = .ok (.slice none 0 0) w := by kernel_rfl
/-- A copy of a list of one's own behind a nil slice. -/
theorem run_copy (w : World) {A : Option Addr} {m c : Nat} {news : List Value} (hn : A = none → m = 0 ∧ c = 0) (hl : news.length = m) (hc : ∀ ad, A = some ad → ∀ j u, news[j]? = some u → w.cell? (ad.add j) = some u) (h1 : ∀ u ∈ news, u.oneCell' = true) (hm : m ≤ 100000) (base : Nat) (hb : base ≤ w.heap.size) :
    ∃ A' c' w', (Builtin.append_ #[42, 42] 42 #[.slice none 0 0, .slice A m c]).run Try.prog w = .ok (.slice A' m c') w' ∧ w'.ownsRow base 3 1 (.slice A' m c') m news ∧ w.grownBy w' none := by
  obtain ⟨i0, hi, hz0, hz1, hz2⟩ := info_parts infoI
  cases A with
  | none =>
    obtain ⟨rfl, rfl⟩ := hn rfl
    rw [List.length_eq_zero_iff.1 hl]
    exact ⟨none, 0, w, run_append_none w, World.ownsRow_nil _ _ _ _, ⟨rfl, rfl, rfl, Nat.le_refl _, fun _ _ _ => rfl⟩⟩
  | some ad =>
    obtain ⟨v', w', hr, h2, h3, -, -⟩ := run_append_own_at (P := Try.prog) w base 42 42 3 i0 _ 1 8 Try.underlying42 hi hz0 hz1 hz2 rfl (by decide) (.slice none 0 0) 0 [] (World.ownsRow_nil _ _ _ _) ad m c news (by omega) (hc ad rfl) h1 (by unfold maxLen; omega) (by omega) hb
    rw [Nat.zero_add, List.nil_append] at h2
    obtain ⟨A', c', rfl⟩ := own_form h2
    exact ⟨A', c', w', hr, h2, h3⟩
theorem step_copy (w : World) {ops : Array Oper} {o : Oper} {a : Act} {K : Act → World → Prop} {Q : Exit → Act → World → Prop} {E : Prop} (hgd : o.guard = none) (s x : Operand)
    (ho : o.op = .call { callee := .builtin .append, args := #[s, x], argTypes := #[42, 42] }) (hty : o.type = 42) {A : Option Addr} {m c : Nat} {news : List Value} (hs : a.eval s = .slice none 0 0) (hx : a.eval x = .slice A m c)
    (hn : A = none → m = 0 ∧ c = 0) (hl : news.length = m) (hc : ∀ ad, A = some ad → ∀ j u, news[j]? = some u → w.cell? (ad.add j) = some u) (h1 : ∀ u ∈ news, u.oneCell' = true) (hm : m ≤ 100000) (base : Nat) (hb : base ≤ w.heap.size)
    (h : ∀ A' c' w', w'.ownsRow base 3 1 (.slice A' m c') m news → w.grownBy w' none → K (a.put o.dst (.slice A' m c')) w') :
    if Region.wanted o (yielded ops a.tmps) = true then Oper.wp Try.prog o a w K Q else E := by
  have hw : Region.wanted o (yielded ops a.tmps) = true := by simp [Region.wanted, hgd]
  rw [if_pos hw]
  obtain ⟨A', c', w', hr, h2, h3⟩ := run_copy w hn hl hc h1 hm base hb
  unfold Oper.wp execOp
  simp only [ho, hty, resolve, invoke, builtin, Sem.run_bind, Sem.run_pure, Result.andThen_ok, List.map_toArray, List.map_cons, List.map_nil, hs, hx, hr]
  exact h A' c' w' h2 h3
theorem wpList_copy (w : World) {ops : Array Oper} {rest : List Oper} {o : Oper} {a : Act} {Q : Exit → Act → World → Prop} (hgd : o.guard = none) (s x : Operand)
    (ho : o.op = .call { callee := .builtin .append, args := #[s, x], argTypes := #[42, 42] }) (hty : o.type = 42) {A : Option Addr} {m c : Nat} {news : List Value} (hs : a.eval s = .slice none 0 0) (hx : a.eval x = .slice A m c)
    (hn : A = none → m = 0 ∧ c = 0) (hl : news.length = m) (hc : ∀ ad, A = some ad → ∀ j u, news[j]? = some u → w.cell? (ad.add j) = some u) (h1 : ∀ u ∈ news, u.oneCell' = true) (hm : m ≤ 100000) (base : Nat) (hb : base ≤ w.heap.size)
    (h : ∀ A' c' w', w'.ownsRow base 3 1 (.slice A' m c') m news → w.grownBy w' none → wpList Try.prog ops Q rest (a.put o.dst (.slice A' m c')) w') : wpList Try.prog ops Q (o :: rest) a w := by
  refine wpList_plain hgd fun K hK => ?_
  obtain ⟨A', c', w', hr, h2, h3⟩ := run_copy w hn hl hc h1 hm base hb
  unfold Oper.wp execOp
  simp only [ho, hty, resolve, invoke, builtin, Sem.run_bind, Sem.run_pure, Result.andThen_ok, List.map_toArray, List.map_cons, List.map_nil, hs, hx, hr]
  exact hK _ _ (h A' c' w' h2 h3)
end Go.Proofs.Ytackjeckafoojaa.Kv
namespace Go.Proofs.Ytackjeckafoojaa.Kv
open Go.RowKit
attribute [local go_sem ↓] Kit.execOp_call_slot
attribute [local go_sem] Kit.callSlot_func
theorem add0 (b j : Nat) : (⟨b, 0, none⟩ : Addr).add j = ⟨b, j, none⟩ := by unfold Addr.add; split <;> simp_all
theorem cells_move {w w' : World} {g : Nat} (hb : w'.heap[g]? = w.heap[g]?) {news : List Value} (hc : ∀ j u, news[j]? = some u → w.cell? ((⟨g, 0, none⟩ : Addr).add j) = some u) : ∀ j u, news[j]? = some u → w'.cell? ((⟨g, 0, none⟩ : Addr).add j) = some u := by
  intro j u hj
  have h := hc j u hj
  rw [add0] at h ⊢
  exact (World.cell?_of_block (a := ⟨g, j, none⟩) hb).trans h
section
variable {W : World} {ρ : Nat → Option RRole} {Y : RLay} {p z : Nat} {rows : List RRow}
set_option maxRecDepth 100000 in
set_option maxHeartbeats 2000000 in
theorem share11_R (h : RefAt W ρ Y p z rows) (ht : Tame rows) (hz : 1 ≤ z ∧ z ≤ 64) {i : Nat} {l : List Int} {ps : List Nat} (hr : rows[i]? = some ⟨l, ps, true⟩) (n : Nat) (hn : n ≤ l.length) (hm : (n + z - 1) / z ≤ ps.length) (hLn : Y.lv i ≠ .slice none 0 0) (hPn : Y.pv i ≠ .slice none 0 0) :
    Calls Try.prog 36 #[.pointer (some ⟨Y.r, 0, none⟩), .int .i64 (i : Int), .int .i64 (n : Int)] W fun e w' => e = .returned (.tuple #[.int .i64 (rows.length : Int), .int .i64 0]) ∧ RStep W ρ Y p z (rows ++ [⟨l.take n, ps.take ((n + z - 1) / z), true⟩]) w' := by
  have hc := right_R h (i : Int) ht.1
  rw [show refRight rows (i : Int) = true by unfold refRight; rw [if_pos (by omega), Int.toNat_natCast, hr]; rfl] at hc
  have HC := Lib.hid hc
  obtain ⟨i0, hi0, hz0, hz1, hz2⟩ := info_parts infoRow
  have HI := Lib.hid (And.intro hi0 (And.intro hz0 (And.intro hz1 hz2)))
  obtain ⟨c0, c1, c2, f0⟩ := h.cells
  obtain ⟨g, cap, hv, hgY, hg, x0, x1, x2, fr⟩ := h.row hr
  rw [hv] at c0
  have hi := (List.getElem?_eq_some_iff.1 hr).1
  have hn' : (rows.length : Int) ≤ 100 := by have := ht.1; omega
  have hi' : (i : Int) < (rows.length : Int) := by omega
  have h1 : ¬ (i : Int) < 0 := by omega
  obtain ⟨hps, hls⟩ := ht.2 _ (List.mem_of_getElem? hr)
  have hps' : (ps.length : Int) ≤ 256 := by simp at hps; omega
  have hls' : (l.length : Int) ≤ 1000 := by simp at hls; omega
  clear hps hls
  obtain ⟨xs, hx, -⟩ := h.xs
  obtain ⟨m, hm0⟩ : ∃ m, m = (n + z - 1) / z := ⟨_, rfl⟩
  rw [← hm0] at hm ⊢
  have hLo := h.l i _ hr
  have hPo := h.p i _ hr
  obtain ⟨gl, cL, hLv⟩ : ∃ gl cL, Y.lv i = .slice (some ⟨gl, 0, none⟩) l.length cL := by
    rcases hLo.2 with ⟨e, -⟩ | ⟨gp, cap', cur, e, -⟩
    · exact absurd e hLn
    · exact ⟨gp, cap', e⟩
  rw [hLv] at hLo
  have hlc : l.length ≤ cL := by
    rcases hLo.2 with ⟨e, -⟩ | ⟨gp, cap', cur, e, -, -, h3, -⟩
    · cases e
    · injection e with _ _ e3
      simp only at h3
      omega
  have n4 : (n : Int) ≤ (cL : Int) := by omega
  have n5 : n ≤ cL := by omega
  have hLc := fun j u (hj : ((l.take n).map encI)[j]? = some u) => hLo.cells (g := gl) rfl j u (by
    rw [List.map_take, List.getElem?_take] at hj
    split at hj
    · exact hj
    · cases hj)
  have hLlt := own_lt' hLo (b := gl) rfl
  obtain ⟨gp, cP, hPv⟩ : ∃ gp cP, Y.pv i = .slice (some ⟨gp, 0, none⟩) ps.length cP := by
    rcases hPo.2 with ⟨e, -⟩ | ⟨gp, cap', cur, e, -⟩
    · exact absurd e hPn
    · exact ⟨gp, cap', e⟩
  rw [hPv] at hPo
  have hpc : ps.length ≤ cP := by
    rcases hPo.2 with ⟨e, -⟩ | ⟨gp, cap', cur, e, -, -, h3, -⟩
    · cases e
    · injection e with _ _ e3
      simp only at h3
      omega
  have m4 : (m : Int) ≤ (cP : Int) := by omega
  have m5 : m ≤ cP := by omega
  have hPc := fun j u (hj : (ints (ps.take m))[j]? = some u) => hPo.cells (g := gp) rfl j u (by
    have e : ints (ps.take m) = (ints ps).take m := by simp [ints, List.map_take]
    rw [e, List.getElem?_take] at hj
    split at hj
    · exact hj
    · cases hj)
  have hPlt := own_lt' hPo (b := gp) rfl
  have q0 : ¬ z = 0 := by omega
  have q1 : ¬ (z : Int) = 0 := by omega
  have q2 : Int.tdiv ((n : Int) + (z : Int) - 1) (z : Int) = (m : Int) := by
    rw [show (n : Int) + (z : Int) - 1 = ((n + z - 1 : Nat) : Int) by omega, hm0]
    rfl
  have n1 : (n : Int) ≤ (l.length : Int) := by omega
  have n2 : ¬ (n : Int) < 0 := by omega
  have n3 : (n : Int) ≤ 1000 := by omega
  have z1 : (z : Int) ≤ 64 := by omega
  have m1 : (m : Int) ≤ 256 := by omega
  have m2 : ¬ (m : Int) < 0 := by omega
  have m6 : (0 : Int) ≤ (m : Int) := by omega
  have n6 : (0 : Int) ≤ (n : Int) := by omega
  have hz0b : ((z : Int) == 0) = false := by simp; omega
  have z2 : (1 : Int) ≤ (z : Int) := by omega
  have y1 : IntKind.i64.wrap ((n : Int) + (z : Int)) = (n : Int) + (z : Int) := by rw [IntKind.wrap_i64]; omega
  have y2 : IntKind.i64.wrap ((n : Int) + (z : Int) - 1) = (n : Int) + (z : Int) - 1 := by rw [IntKind.wrap_i64]; omega
  have y3 : IntKind.i64.wrap (m : Int) = (m : Int) := by rw [IntKind.wrap_i64]; omega
  have hq : ∀ w : World, (binOp .quo 3 (.int .i64 ((n : Int) + (z : Int) - 1)) (.int .i64 (z : Int))).run Try.prog w = .ok (.int .i64 (m : Int)) w := by
    intro w
    have := Try.underlying3
    simp [go_sem, this, hz0b, q0, q1, q2, y3]
  rw [hLv] at x0
  rw [hPv] at x1
  have hYlt : Y.r < W.heap.size := h.lt _ (by rw [h.rbox]; simp)
  have hGlt : g < W.heap.size := h.lt _ (by rw [hg]; simp)
  have hYX : Y.r ≠ W.heap.size := by omega
  have hGX : g ≠ W.heap.size := by omega
  have hXY : W.heap.size ≠ Y.r := by omega
  have hXG : W.heap.size ≠ g := by omega
  have hvb : ∀ b, Y.vr.ownBlock = some b → b ≠ Y.r := fun b hb => by rintro rfl; have := h.rrows _ hb; rw [h.rbox] at this; cases this
  have HX := Lib.hid (And.intro h (And.intro hr (And.intro hv (And.intro hg (And.intro hx (And.intro hLc hLlt))))))
  have HP := Lib.hid (And.intro hvb (And.intro hPc hPlt))
  clear h hr hv hg hx fr hc hi hi0 hz0 hz1 hz2 hLv hPv hLo hPo hm0 ht hz hvb hLc hlc hPc hpc hLn hPn
  go_enter Try.func36, Try.ntmps36
  go_wp2_with fail
  with_reducible refine Calls.mono HC.out ?_
  rintro e w1 ⟨rfl, rfl⟩
  go_wp2_with fail
  obtain ⟨W1, hW1⟩ : ∃ W1, W1 = W.alloc (.cells #[.slice none 0 0, .slice none 0 0, .bool true] 73) := ⟨_, rfl⟩
  rw [← hW1]
  have HB : Hid (Below W.heap.size W W1) := by rw [hW1]; exact (Below.refl _ _).alloc (Nat.le_refl _) _
  have hs1 : W1.heap.size = W.heap.size + 1 := by rw [hW1]; simp
  have hX1 : W1.heap[W.heap.size]? = some (.cells #[.slice none 0 0, .slice none 0 0, .bool true] 73 (0, 0)) := by rw [hW1]; exact heap_alloc_new _ _
  have c0 := (World.cell?_of_block (a := ⟨Y.r, 0, none⟩) (HB.out.block Y.r hYlt)).trans c0
  have c2 := (World.cell?_of_block (a := ⟨Y.r, 2, none⟩) (HB.out.block Y.r hYlt)).trans c2
  have x0 := (World.cell?_of_block (a := ⟨g, i * 3, none⟩) (HB.out.block g hGlt)).trans x0
  have x1 := (World.cell?_of_block (a := ⟨g, i * 3 + 1, none⟩) (HB.out.block g hGlt)).trans x1
  have u0 : W1.cell? ⟨W.heap.size, 0, none⟩ = some (.slice none 0 0) := by simp [World.cell?, hX1]
  have HX1 := Lib.hid (And.intro hX1 hs1)
  clear hW1 hX1 hs1
  have c0W := c0
  go_still_tail 12, (by kernel_rfl)
  change wpList _ _ _ _ _ W1.drew
  (refine wpList_copy W1.drew (by rfl) (.tmp 36) (.tmp 46) (by rfl) (by rfl) (A := (some ⟨gl, 0, none⟩)) (m := n) (c := cL) (news := ((l.take n).map encI)) ?_ ?_ ?_ ?_ ?_ ?_ ?_ W1.heap.size ?_ ?_; (rfl); (rfl); (intro e; cases e); (rw [List.length_map, List.length_take]; omega); (intro ad e; injection e with e; subst e; exact cells_move (HB.out.block gl HX.out.2.2.2.2.2.2) HX.out.2.2.2.2.2.1); (intro u hu; obtain ⟨q, _, rfl⟩ := List.mem_map.1 hu; rfl); (omega); (exact Nat.le_refl _); intro A6 c6 w6 hown6 hg6; have hb6 : Below W1.heap.size W1 w6 := ⟨hg6.os, hg6.tape, hg6.output, hg6.size, fun b hb => hg6.block b hb (by simp)⟩; have c0 := (World.cell?_of_block (a := ⟨Y.r, 0, none⟩) (hb6.block Y.r (by have := HX1.out.2; omega))).trans c0; have x0 := (World.cell?_of_block (a := ⟨g, i * 3, none⟩) (hb6.block g (by have := HX1.out.2; omega))).trans x0; have u0 := (World.cell?_of_block (a := ⟨W.heap.size, 0, none⟩) (hb6.block W.heap.size (by have := HX1.out.2; omega))).trans u0; have hX6 := (hb6.block W.heap.size (by have := HX1.out.2; omega)).trans HX1.out.1; have uf : w6.frozen? ⟨W.heap.size, 0, none⟩ = false := (by simp [World.frozen?, hX6]); have H6 := Lib.hid (And.intro hown6 (And.intro hb6 hX6)); clear hown6 hg6 hb6 hX6)
  go_wp2_with fail
  obtain ⟨w7, hw7⟩ : ∃ w7, w7 = w6.setCell ⟨W.heap.size, 0, none⟩ (.slice A6 n c6) := ⟨_, rfl⟩
  rw [← hw7]
  have hX7 : w7.heap[W.heap.size]? = some (.cells #[.slice A6 n c6, .slice none 0 0, .bool true] 73 (0, 0)) := by rw [hw7]; exact heap_setCell_same w6 W.heap.size 0 _ _ _ H6.out.2.2
  have hk7 : ∀ b, b ≠ W.heap.size → w7.heap[b]? = w6.heap[b]? := fun b hb => by rw [hw7]; exact Below.heap_setCell _ _ _ _ hb
  have hb7 : Below W.heap.size W w7 := by
    refine ⟨?_, ?_, ?_, ?_, fun b hb => (hk7 b (by omega)).trans ((H6.out.2.1.block b (by have := HX1.out.2; omega)).trans (HB.out.block b hb))⟩
    · rw [hw7]; exact H6.out.2.1.os.trans HB.out.os
    · rw [hw7]; exact H6.out.2.1.tape.trans HB.out.tape
    · rw [hw7]; exact H6.out.2.1.output.trans HB.out.output
    · rw [hw7]; have := H6.out.2.1.size; have := HB.out.size; simp; omega
  have hL7 : w7.ownsRow W1.heap.size 3 1 (.slice A6 n c6) n ((l.take n).map encI) := own_same H6.out.1 fun b hb => hk7 b (by have := (H6.out.1.lt b hb).1; have := HX1.out.2; omega)
  have hs7 : W1.heap.size ≤ w7.heap.size := by rw [hw7]; have := H6.out.2.1.size; simpa using this
  have c0 := (World.cell?_of_block (a := ⟨Y.r, 0, none⟩) ((hk7 Y.r hYX).trans (H6.out.2.1.block Y.r (by have := HX1.out.2; omega)))).trans c0W
  have c2 := (World.cell?_of_block (a := ⟨Y.r, 2, none⟩) ((hk7 Y.r hYX).trans (H6.out.2.1.block Y.r (by have := HX1.out.2; omega)))).trans c2
  have x1 := (World.cell?_of_block (a := ⟨g, i * 3 + 1, none⟩) ((hk7 g hGX).trans (H6.out.2.1.block g (by have := HX1.out.2; omega)))).trans x1
  have u1 : w7.cell? ⟨W.heap.size, 1, none⟩ = some (.slice none 0 0) := by simp [World.cell?, hX7]
  have H7 := Lib.hid (And.intro hb7 (And.intro hX7 (And.intro hL7 hs7)))
  clear hb7 hX7 hL7 hs7 hk7 hw7 c0W x0
  go_wp2_with fail
  have c0X := c0
  go_still_tail 23, (by kernel_rfl)
  change wpList _ _ _ _ _ w7.drew
  (refine wpList_copy w7.drew (by rfl) (.tmp 50) (.tmp 71) (by rfl) (by rfl) (A := (some ⟨gp, 0, none⟩)) (m := m) (c := cP) (news := (ints (ps.take m))) ?_ ?_ ?_ ?_ ?_ ?_ ?_ w7.heap.size ?_ ?_; (rfl); (rfl); (intro e; cases e); (unfold ints; rw [List.length_map, List.length_take]; omega); (intro ad e; injection e with e; subst e; exact cells_move (H7.out.1.block gp HP.out.2.2) HP.out.2.1); (intro u hu; obtain ⟨q, _, rfl⟩ := List.mem_map.1 hu; rfl); (omega); (exact Nat.le_refl _); intro A8 c8 w8 hown8 hg8; have hb8 : Below w7.heap.size w7 w8 := ⟨hg8.os, hg8.tape, hg8.output, hg8.size, fun b hb => hg8.block b hb (by simp)⟩; have c0 := (World.cell?_of_block (a := ⟨Y.r, 0, none⟩) (hb8.block Y.r (by have := HX1.out.2; have := H7.out.2.2.2; omega))).trans c0; have c2 := (World.cell?_of_block (a := ⟨Y.r, 2, none⟩) (hb8.block Y.r (by have := HX1.out.2; have := H7.out.2.2.2; omega))).trans c2; have x1 := (World.cell?_of_block (a := ⟨g, i * 3 + 1, none⟩) (hb8.block g (by have := HX1.out.2; have := H7.out.2.2.2; omega))).trans x1; have u1 := (World.cell?_of_block (a := ⟨W.heap.size, 1, none⟩) (hb8.block W.heap.size (by have := HX1.out.2; have := H7.out.2.2.2; omega))).trans u1; have hX8 := (hb8.block W.heap.size (by have := HX1.out.2; have := H7.out.2.2.2; omega)).trans H7.out.2.1; have uf : w8.frozen? ⟨W.heap.size, 1, none⟩ = false := (by simp [World.frozen?, hX8]); have H8 := Lib.hid (And.intro hown8 (And.intro hb8 hX8)); clear hown8 hg8 hb8 hX8)
  go_wp2_with fail
  obtain ⟨w9, hw9⟩ : ∃ w9, w9 = w8.setCell ⟨W.heap.size, 1, none⟩ (.slice A8 m c8) := ⟨_, rfl⟩
  rw [← hw9]
  have hX9 : w9.heap[W.heap.size]? = some (.cells #[.slice A6 n c6, .slice A8 m c8, .bool true] 73 (0, 0)) := by rw [hw9]; exact heap_setCell_same w8 W.heap.size 1 _ _ _ H8.out.2.2
  have hk9 : ∀ b, b ≠ W.heap.size → w9.heap[b]? = w8.heap[b]? := fun b hb => by rw [hw9]; exact Below.heap_setCell _ _ _ _ hb
  have hs89 : w9.heap.size = w8.heap.size := by rw [hw9]; simp
  have hb9 : Below W.heap.size W w9 := by
    refine ⟨?_, ?_, ?_, ?_, fun b hb => (hk9 b (by omega)).trans ((H8.out.2.1.block b (Nat.lt_of_lt_of_le hb H7.out.1.size)).trans (H7.out.1.block b hb))⟩
    · rw [hw9]; exact H8.out.2.1.os.trans H7.out.1.os
    · rw [hw9]; exact H8.out.2.1.tape.trans H7.out.1.tape
    · rw [hw9]; exact H8.out.2.1.output.trans H7.out.1.output
    · have := H8.out.2.1.size; have := H7.out.1.size; omega
  have hL9 : w9.ownsRow W.heap.size 3 1 (.slice A6 n c6) n ((l.take n).map encI) := by
    have h5 := own_same H7.out.2.2.1 (W' := w9) fun b hb => by
      have h6 := H7.out.2.2.1.lt b hb
      exact (hk9 b (by have := HX1.out.2; omega)).trans (H8.out.2.1.block b h6.2)
    exact ⟨h5.1, h5.2.imp id fun ⟨g, cap, cur, e, h6, r⟩ => ⟨g, cap, cur, e, by have := HX1.out.2; omega, r⟩⟩
  have hP9 : w9.ownsRow W.heap.size 3 1 (.slice A8 m c8) m (ints (ps.take m)) := by
    have h5 := own_same H8.out.1 (W' := w9) fun b hb => by
      have h6 := H8.out.1.lt b hb
      exact hk9 b (by have := HX1.out.2; have := H7.out.2.2.2; omega)
    exact ⟨h5.1, h5.2.imp id fun ⟨g, cap, cur, e, h6, r⟩ => ⟨g, cap, cur, e, by have := HX1.out.2; have := H7.out.2.2.2; omega, r⟩⟩
  have hne9 : ∀ b, (Value.slice A6 n c6).ownBlock = some b → (Value.slice A8 m c8).ownBlock ≠ some b := fun b hb e => by
    have h6 := H7.out.2.2.1.lt b hb
    have h7 := H8.out.1.lt b e
    omega
  have c0 := (World.cell?_of_block (a := ⟨Y.r, 0, none⟩) ((hk9 Y.r hYX).trans (H8.out.2.1.block Y.r (by have := HX1.out.2; have := H7.out.2.2.2; omega)))).trans c0X
  have v0 : w9.cell? ⟨W.heap.size, 0, none⟩ = some (.slice A6 n c6) := by simp [World.cell?, hX9]
  have v1 : w9.cell? ⟨W.heap.size, 1, none⟩ = some (.slice A8 m c8) := by simp [World.cell?, hX9]
  have v2 : w9.cell? ⟨W.heap.size, 2, none⟩ = some (.bool true) := by simp [World.cell?, hX9]
  have hYr9 := hb9.block Y.r hYlt
  have fY : w9.frozen? ⟨Y.r, 0, none⟩ = false := (World.frozen?_of_block (a := ⟨Y.r, 0, none⟩) hYr9).trans f0
  have hx9 : w9.ownsRow 0 73 3 (.slice (some ⟨g, 0, none⟩) rows.length cap) rows.length xs := by
    have h5 := HX.out.2.2.2.2.1
    rw [HX.out.2.2.1] at h5
    exact own_same h5 fun b hb => hb9.block b (own_lt' h5 hb)
  have hY9 : Y.r < w9.heap.size := Nat.lt_of_lt_of_le hYlt hb9.size
  have H9 := Lib.hid (And.intro hb9 (And.intro hX9 (And.intro hL9 (And.intro hP9 (And.intro hne9 hx9)))))
  clear hb9 hX9 hL9 hP9 hne9 hx9 hk9 hs89 hw9 hYr9 c0X c2 x1
  go_wp2_with fail
  go_region_law (first | (refine step_append_lies _ rfl (.tmp 78) (.tmp 80) 32 rfl 0 73 i0 _ 3 56 Try.underlying32 HI.out.1 HI.out.2.1 HI.out.2.2.1 HI.out.2.2.2 rfl (by decide) (.slice (some ⟨g, 0, none⟩) rows.length cap) rows.length xs ?_ ?_ ⟨w9.heap.size, 0, none⟩ 1 1 [.slice A6 n c6, .slice A8 m c8, .bool true] ?_ ?_ ?_ ?_ (by decide) ?_ ?_ ?_ _ rfl ?_; (rfl); (exact own_same H9.out.2.2.2.2.2 fun b hb => Below.heap_alloc _ _ _ (own_lt' H9.out.2.2.2.2.2 hb)); (rfl); (rfl); (exact cell_three_new w9 _ _ _ _); (intro u hu; simp only [List.mem_cons, List.not_mem_nil, or_false] at hu; rcases hu with rfl | rfl | rfl <;> rfl); (unfold maxLen; omega); (omega); (exact Nat.zero_le _); intro g11 cap11 w11 hown11 hgrow11 hat11 hlt11; have hb11 : ∀ b, b < w9.heap.size → b ≠ g → w11.heap[b]? = w9.heap[b]? := (fun b hb hbg => (hgrow11.block b (Nat.lt_of_lt_of_le hb (by simp)) (by intro e; injection e with e; exact hbg e)).trans (Below.heap_alloc _ _ _ hb)); have hXl : W.heap.size < w9.heap.size := lt_of_some H9.out.2.1; have c0 := (World.cell?_of_block (a := ⟨Y.r, 0, none⟩) (hb11 Y.r hY9 (Ne.symm hgY))).trans c0; have fY := (World.frozen?_of_block (a := ⟨Y.r, 0, none⟩) (hb11 Y.r hY9 (Ne.symm hgY))).trans fY; have v0 := (World.cell?_of_block (a := ⟨W.heap.size, 0, none⟩) (hb11 W.heap.size hXl hXG)).trans v0; have v1 := (World.cell?_of_block (a := ⟨W.heap.size, 1, none⟩) (hb11 W.heap.size hXl hXG)).trans v1; have v2 := (World.cell?_of_block (a := ⟨W.heap.size, 2, none⟩) (hb11 W.heap.size hXl hXG)).trans v2; have H11 := Lib.hid (And.intro hown11 (And.intro hgrow11 hat11)); clear hown11 hgrow11 hat11 hb11))
  all_goals
    (have hlw : (l.take n).length = n := (by rw [List.length_take]; omega)
     have hpw : (ps.take m).length = m := (by rw [List.length_take]; omega)
     have hend : RStep W ρ Y p z (rows ++ [⟨(l.take n), (ps.take m), true⟩]) (w11.setCell ⟨Y.r, 0, none⟩ (.slice (some ⟨g11, 0, none⟩) (rows.length + 1) cap11)) := (by
       refine HX.out.1.pushed HX.out.2.2.2.2.1 (W1 := w9) (wx := w9.drew) (o := .cells #[.slice A6 n c6, .slice A8 m c8, .bool true] 73) (L := .slice A6 n c6) (P := .slice A8 m c8) H9.out.1 rfl rfl rfl rfl (r := ⟨(l.take n), (ps.take m), true⟩) H11.out.1 ?_ ?_ ?_ ?_ H9.out.2.2.2.2.1
       · rw [HX.out.2.2.1]; exact H11.out.2.1
       · rw [HX.out.2.2.1]; exact H11.out.2.2.imp (fun e => e.symm) (fun e => congrArg some e)
       · show w9.ownsRow W.heap.size 3 1 _ (l.take n).length ((l.take n).map encI)
         rw [hlw]; exact H9.out.2.2.1
       · show w9.ownsRow W.heap.size 3 1 _ (ps.take m).length (ints (ps.take m))
         rw [hpw]; exact H9.out.2.2.2.1)
     have HE := Lib.hid hend
     clear hend
     go_wp2_with fail
     go_ret2
     exact ⟨rfl, HE.out⟩)
end
end Go.Proofs.Ytackjeckafoojaa.Kv
