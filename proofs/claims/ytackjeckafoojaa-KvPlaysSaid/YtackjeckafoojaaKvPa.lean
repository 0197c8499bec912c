/- The reference's rows, told by the pool's: plain. -/
import Derived.Test.YtackjeckafoojaaKvAp1
import Derived.Test.YtackjeckafoojaaKvDo2
set_option linter.unusedVariables false
set_option linter.unusedSimpArgs false
namespace Go.Proofs.Ytackjeckafoojaa.Kv
/-- A row of the reference: things, pages, and whether it is open. -/
structure RRow where
  l : List Int
  ps : List Nat
  o : Bool
def PSt.rowOf (s : PSt Int) (i : Nat) : RRow := match s.row i with
  | some (ps, _) => ⟨s.all 0 (i : Int), ps, true⟩
  | none => ⟨[], [], false⟩
def PSt.rowsOf (s : PSt Int) : List RRow := (List.range s.rows.length).map s.rowOf
theorem rowsOf_length (s : PSt Int) : s.rowsOf.length = s.rows.length := by simp [PSt.rowsOf]
theorem rowsOf_get (s : PSt Int) {i : Nat} (h : i < s.rows.length) : s.rowsOf[i]? = some (s.rowOf i) := by simp [PSt.rowsOf, h]
theorem rowOf_some {s : PSt Int} {i : Nat} {ps : List Nat} {n : Nat} (h : s.row i = some (ps, n)) : s.rowOf i = ⟨s.all 0 (i : Int), ps, true⟩ := by unfold PSt.rowOf; rw [h]
theorem rowOf_none {s : PSt Int} {i : Nat} (h : s.row i = none) : s.rowOf i = ⟨[], [], false⟩ := by unfold PSt.rowOf; rw [h]
theorem rowOf_congr {s t : PSt Int} {i : Nat} (h : t.row i = s.row i) (ha : t.all 0 (i : Int) = s.all 0 (i : Int)) : t.rowOf i = s.rowOf i := by
  unfold PSt.rowOf
  rw [h, ha]
theorem rowsOf_set {s t : PSt Int} {id : Nat} (hid : id < s.rows.length) (hl : t.rows.length = s.rows.length) (h : ∀ j, j ≠ id → t.rowOf j = s.rowOf j) : t.rowsOf = s.rowsOf.set id (t.rowOf id) := by
  refine List.ext_getElem? fun j => ?_
  rw [List.getElem?_set]
  by_cases hj : id = j
  · subst hj
    rw [if_pos rfl, if_pos (by rw [rowsOf_length]; exact hid), rowsOf_get _ (by omega)]
  · rw [if_neg hj]
    rcases Nat.lt_or_ge j s.rows.length with hlt | hge
    · rw [rowsOf_get _ (by omega), rowsOf_get _ hlt, h j (fun e => hj e.symm)]
    · rw [List.getElem?_eq_none (by rw [rowsOf_length]; omega), List.getElem?_eq_none (by rw [rowsOf_length]; omega)]
theorem rowsOf_push {s t : PSt Int} (hl : t.rows.length = s.rows.length + 1) (h : ∀ j, j < s.rows.length → t.rowOf j = s.rowOf j) : t.rowsOf = s.rowsOf ++ [t.rowOf s.rows.length] := by
  unfold PSt.rowsOf
  rw [hl, List.range_succ, List.map_append]
  congr 1
  exact List.map_congr_left fun j hj => h j (List.mem_range.1 hj)
theorem rows_open {s : PSt Int} (hm : s.rows.length < 1024) : s.open_ [] 0 = ((s.open_ [] 0).1, (s.rows.length : Int), 0) ∧ (s.open_ [] 0).1.rowsOf = s.rowsOf ++ [⟨[], [], true⟩] := by
  have e : s.open_ [] 0 = ({ s with rows := s.rows ++ [some ([], 0)] }, (s.rows.length : Int), 0) := by
    unfold PSt.open_
    rw [if_neg (by omega)]
    rfl
  refine ⟨by rw [e], ?_⟩
  rw [e]
  have hrow := row_append s ({ s with rows := s.rows ++ [some ([], 0)] } : PSt Int) s.rows (some ([], 0)) rfl rfl
  rw [rowsOf_push (s := s) (by simp) (fun j hj => rowOf_congr (by rw [hrow, if_neg (by omega)]) ?_)]
  · congr 2
    have hr : ({ s with rows := s.rows ++ [some ([], 0)] } : PSt Int).row s.rows.length = some ([], 0) := by rw [hrow, if_pos rfl]
    rw [rowOf_some hr, all_row 0 hr]
    rfl
  · have hj' : ({ s with rows := s.rows ++ [some ([], 0)] } : PSt Int).row j = s.row j := by rw [hrow, if_neg (by omega)]
    cases hr : s.row j with
    | none => rw [all_none 0 hr, all_none 0 (hj'.trans hr)]
    | some r => obtain ⟨ps, n⟩ := r; rw [all_row 0 hr, all_row 0 (hj'.trans hr)]; rfl
theorem rows_share {s : PSt Int} (h : Inv s) (hm : s.rows.length < 1024) {id : Nat} {ps : List Nat} {n m : Nat} (hr : s.row id = some (ps, n)) (hmn : m ≤ n) :
    s.share (id : Int) (m : Int) = ((s.share (id : Int) (m : Int)).1, (s.rows.length : Int), 0) ∧ (s.share (id : Int) (m : Int)).1.rowsOf = s.rowsOf ++ [⟨(s.all 0 (id : Int)).take m, ps.take ((m + s.size - 1) / s.size), true⟩] := by
  have e : s.share (id : Int) (m : Int) = ({ incAll s (ps.take ((m + s.size - 1) / s.size)) with rows := s.rows ++ [some (ps.take ((m + s.size - 1) / s.size), m)] }, (s.rows.length : Int), 0) := by
    unfold PSt.share
    rw [find_of_row hr]
    simp only
    rw [if_neg (by omega)]
    unfold PSt.open_
    rw [if_neg (by omega)]
    rfl
  obtain ⟨h1, h2⟩ := all_share h (0 : Int) hr hmn
  refine ⟨by rw [e], ?_⟩
  rw [e]
  have hrow := row_append s { incAll s (ps.take ((m + s.size - 1) / s.size)) with rows := s.rows ++ [some (ps.take ((m + s.size - 1) / s.size), m)] } s.rows (some (ps.take ((m + s.size - 1) / s.size), m)) rfl rfl
  rw [rowsOf_push (s := s) (by simp) (fun j hj => rowOf_congr (by rw [hrow, if_neg (by omega)]) (h2 j (by omega)))]
  congr 2
  rw [rowOf_some (by rw [hrow, if_pos rfl]), h1]
theorem rows_close {s : PSt Int} {id : Nat} {ps : List Nat} {n : Nat} (hr : s.row id = some (ps, n)) : (s.close (id : Int)).2 = 0 ∧ (s.close (id : Int)).1.rowsOf = s.rowsOf.set id ⟨[], [], false⟩ := by
  have e : s.close (id : Int) = ((decAll s ps).setRow id none, 0) := by unfold PSt.close; rw [find_of_row hr]; simp
  have hl := decAll_len s ps
  have hrow := row_set s ((decAll s ps).setRow id none) (row_lt hr) none (by show List.set _ _ _ = _; rw [hl.2.2])
  rw [e]
  refine ⟨rfl, ?_⟩
  rw [rowsOf_set (s := s) (row_lt hr) (by show (List.set _ _ _).length = _; rw [List.length_set, hl.2.2]) (fun j hj => rowOf_congr (by rw [hrow, if_neg hj]) ?_), rowOf_none (by rw [hrow, if_pos rfl])]
  have hj' : ((decAll s ps).setRow id none).row j = s.row j := by rw [hrow, if_neg hj]
  cases hr2 : s.row j with
  | none => rw [all_none 0 hr2, all_none 0 (hj'.trans hr2)]
  | some r =>
    obtain ⟨qs, k⟩ := r
    rw [all_row 0 hr2, all_row 0 (hj'.trans hr2)]
    refine List.map_congr_left fun k _ => ?_
    have e1 : ∀ i, ((decAll s ps).setRow id none).lst i = s.lst i := fun i => decAll_lst s ps i
    have e2 : ((decAll s ps).setRow id none).size = s.size := hl.2.1
    rw [e1, e2]
/-- An append that is taken: the row's pages by the case. -/
theorem rows_append {s : PSt Int} (h : Inv s) {id : Nat} {ps qs : List Nat} {n : Nat} (hr : s.row id = some (ps, n)) (x : Int) (h0 : (s.append (id : Int) x).2 = 0) (hq : (s.append (id : Int) x).1.rows = s.rows.set id (some (qs, n + 1))) :
    (s.append (id : Int) x).1.rowsOf = s.rowsOf.set id ⟨s.all 0 (id : Int) ++ [x], qs, true⟩ := by
  rcases app_all h 0 hr x with ⟨-, hl, -, ha, hb⟩ | ⟨he, -⟩
  · have hrow := row_set s (s.append (id : Int) x).1 (row_lt hr) _ hq
    rw [rowsOf_set (s := s) (row_lt hr) hl (fun j hj => rowOf_congr (by rw [hrow, if_neg hj]) (hb j hj)), rowOf_some (by rw [hrow, if_pos rfl]), ha]
  · rw [he] at h0; simp at h0
/-- How an append goes. -/
theorem append_cases {s : PSt Int} (h : Inv s) {id : Nat} {ps : List Nat} {n : Nat} (hr : s.row id = some (ps, n)) (x : Int) :
    (n % s.size = 0 ∧ ((s.first = none ∧ s.append (id : Int) x = (s, 16)) ∨ ∃ a, s.first = some a ∧ (s.append (id : Int) x).2 = 0 ∧ (s.append (id : Int) x).1.rowsOf = s.rowsOf.set id ⟨s.all 0 (id : Int) ++ [x], ps ++ [a], true⟩)) ∨
    (n % s.size ≠ 0 ∧ 1 < s.cnt (ps.getD (ps.length - 1) 0) ∧ ((s.first = none ∧ s.append (id : Int) x = (s, 16)) ∨ ∃ a, s.first = some a ∧ (s.append (id : Int) x).2 = 0 ∧ (s.append (id : Int) x).1.rowsOf = s.rowsOf.set id ⟨s.all 0 (id : Int) ++ [x], ps.take (ps.length - 1) ++ [a], true⟩)) ∨
    (n % s.size ≠ 0 ∧ ¬ 1 < s.cnt (ps.getD (ps.length - 1) 0) ∧ (s.append (id : Int) x).2 = 0 ∧ (s.append (id : Int) x).1.rowsOf = s.rowsOf.set id ⟨s.all 0 (id : Int) ++ [x], ps, true⟩) := by
  have hf := find_of_row hr
  by_cases hm : n % s.size = 0
  · refine .inl ⟨hm, ?_⟩
    cases ha : s.first with
    | none => exact .inl ⟨rfl, by unfold PSt.append; rw [hf]; simp only; rw [if_pos hm, ha]⟩
    | some a =>
      have e : s.append (id : Int) x = (((s.setPage a ([], 1)).setRow id (some (ps ++ [a], n))).put id (ps ++ [a]) n x, 0) := by unfold PSt.append; rw [hf]; simp only; rw [if_pos hm, ha]; simp
      exact .inr ⟨a, rfl, by rw [e], rows_append h hr x (by rw [e]) (by rw [e]; simp [PSt.put, PSt.setRow, PSt.setPage])⟩
  · right
    have hp : 1 ≤ ps.length := by
      obtain ⟨-, -, -, d4⟩ := len_div h hr
      rw [d4 hm]
      exact Nat.succ_pos _
    by_cases hc : 1 < s.cnt (ps.getD (ps.length - 1) 0)
    · refine .inl ⟨hm, hc, ?_⟩
      cases ha : s.first with
      | none => exact .inl ⟨rfl, by unfold PSt.append; rw [hf]; simp only; rw [if_neg hm, if_pos hc, ha]⟩
      | some a =>
        have e0 : (s.append (id : Int) x).2 = 0 := by unfold PSt.append; rw [hf]; simp only; rw [if_neg hm, if_pos hc, ha]
        have e1 : (s.append (id : Int) x).1.rows = s.rows.set id (some (ps.set (ps.length - 1) a, n + 1)) := by unfold PSt.append; rw [hf]; simp only; rw [if_neg hm, if_pos hc, ha]; simp [PSt.put, PSt.setRow, PSt.setPage]
        refine .inr ⟨a, rfl, e0, ?_⟩
        rw [rows_append h hr x e0 e1, set_last ps (ps.length - 1) a (by omega)]
    · refine .inr ⟨hm, hc, ?_⟩
      have e : s.append (id : Int) x = (s.put id ps n x, 0) := by unfold PSt.append; rw [hf]; simp only; rw [if_neg hm, if_neg hc]; simp
      exact ⟨by rw [e], rows_append h hr x (by rw [e]) (by rw [e]; simp [PSt.put, PSt.setRow, PSt.setPage])⟩
/-- How often open rows name a page. -/
def refCount (rows : List RRow) (page : Int) : Nat := (rows.map fun r => if r.o then r.ps.countP (fun p : Nat => (p : Int) == page) else 0).sum
theorem refCount_of {s : PSt Int} (h : Inv s) (page : Nat) (hp : page < s.pages.length) : (refCount s.rowsOf (page : Int) : Int) = s.cnt page := by
  rw [h.cnt page hp]
  congr 1
  unfold refCount PSt.rowsOf
  rw [List.map_map]
  have e : ∀ m, m ≤ s.rows.length → ((List.range m).map ((fun r : RRow => if r.o then r.ps.countP (fun p : Nat => (p : Int) == (page : Int)) else 0) ∘ s.rowOf)).sum = (s.rows.take m).countP (holdsR page) := by
    intro m
    induction m with
    | zero => intro _; simp
    | succ m ih =>
      intro hm
      rw [List.range_succ, List.map_append, List.sum_append, ih (by omega), List.take_succ_eq_append_getElem (by omega), List.countP_append]
      congr 1
      have hrow : s.row m = s.rows[m] := by unfold PSt.row; rw [List.getElem?_eq_getElem (by omega)]; rfl
      simp only [List.map_cons, List.map_nil, List.sum_cons, List.sum_nil, Function.comp, List.countP_cons, List.countP_nil]
      cases hr : s.rows[m] with
      | none => rw [rowOf_none (hrow.trans hr)]; simp [holdsR]
      | some r =>
        obtain ⟨ps, n⟩ := r
        rw [rowOf_some (hrow.trans hr)]
        have hnd := h.nd _ _ _ (hrow.trans hr)
        simp only [if_true, holdsR, Nat.zero_add, Nat.add_zero]
        have e2 : ps.countP (fun p : Nat => (p : Int) == (page : Int)) = ps.count page := by
          unfold List.count
          refine List.countP_congr fun p _ => ?_
          simp
          omega
        rw [e2]
        by_cases hin : page ∈ ps
        · rw [show ps.count page = 1 from Nat.le_antisymm (List.nodup_iff_count.1 hnd page) (List.count_pos_iff.2 hin)]; simp [hin]
        · rw [List.count_eq_zero_of_not_mem hin]; simp [hin]
  have := e s.rows.length (Nat.le_refl _)
  rw [List.take_length] at this
  exact this
theorem refCount_zero {s : PSt Int} (h : Inv s) (page : Int) (hp : page < 0 ∨ (s.pages.length : Int) ≤ page) : refCount s.rowsOf page = 0 := by
  unfold refCount
  rw [List.sum_eq_zero_iff_forall_eq_nat]
  intro c hc
  obtain ⟨r, hr, rfl⟩ := List.mem_map.1 hc
  obtain ⟨i, -, rfl⟩ := List.mem_map.1 hr
  cases hi : s.row i with
  | none => rw [rowOf_none hi]; rfl
  | some x =>
    obtain ⟨ps, n⟩ := x
    rw [rowOf_some hi]
    simp only [if_true]
    rw [List.countP_eq_zero]
    intro q hq
    have := h.lt _ _ _ hi q hq
    simp
    omega
end Go.Proofs.Ytackjeckafoojaa.Kv
namespace Go.Proofs.Ytackjeckafoojaa.Kv
open Go.RowKit
inductive RRole where
  | box | rows | l (i : Nat) | p (i : Nat)
structure RLay where
  r : Nat
  vr : Value
  lv : Nat → Value
  pv : Nat → Value
theorem own_set {W : World} {base : Nat} {e : TypeId} {size g n cap : Nat} {xs : List Value} (h : W.ownsRow base e size (.slice (some ⟨g, 0, none⟩) n cap) n xs) (j : Nat) (v : Value) : (W.setCell ⟨g, j, none⟩ v).ownsRow base e size (.slice (some ⟨g, 0, none⟩) n cap) n (xs.set j v) := by
  refine ⟨by rw [List.length_set]; exact h.1, ?_⟩
  rcases h.2 with ⟨e, _⟩ | ⟨g', cap', cur, e, h1, h2, h3, h4, h5, h6⟩
  · cases e
  · injection e with e1 _ e3
    injection e1 with e1
    injection e1 with e1
    subst e1
    subst e3
    refine .inr ⟨g, cap, cur.setIfInBounds j v, rfl, h1, heap_setCell_same W g j _ _ v h2, h3, h4, by simpa using h5, ?_⟩
    rw [Array.toList_setIfInBounds, List.take_set, h6]
theorem own_cellAt {W : World} {base : Nat} {e : TypeId} {size g n cap : Nat} {xs : List Value} (h : W.ownsRow base e size (.slice (some ⟨g, 0, none⟩) n cap) n xs) {j : Nat} {v : Value} (hj : xs[j]? = some v) : W.cell? ⟨g, j, none⟩ = some v := by
  rcases h.2 with ⟨e, _⟩ | ⟨g', cap', cur, e, h1, h2, h3, h4, h5, h6⟩
  · cases e
  · injection e with e1 _ e3
    injection e1 with e1
    injection e1 with e1
    subst e1
    rw [cell_of_row W g j _ _ _ h2]
    rw [← h6, List.getElem?_take] at hj
    split at hj
    · simpa using hj
    · cases hj
theorem own_frozenAt {W : World} {base : Nat} {e : TypeId} {size g n cap : Nat} {xs : List Value} (h : W.ownsRow base e size (.slice (some ⟨g, 0, none⟩) n cap) n xs) (j : Nat) : W.frozen? ⟨g, j, none⟩ = false := by
  rcases h.2 with ⟨e, _⟩ | ⟨g', cap', cur, e, h1, h2, h3, h4, h5, h6⟩
  · cases e
  · injection e with e1 _ e3
    injection e1 with e1
    injection e1 with e1
    subst e1
    exact frozen_of_row W g j _ _ h2
theorem own_addr {W : World} {base : Nat} {e : TypeId} {size n : Nat} {v : Value} {xs : List Value} (h : W.ownsRow base e size v n xs) (hn : 0 < n) : ∃ g cap, v = .slice (some ⟨g, 0, none⟩) n cap := by
  rcases h.2 with ⟨-, h0⟩ | ⟨g, cap, cur, e, -⟩
  · omega
  · exact ⟨g, cap, e⟩
/-- The reference's pool at Y.r. -/
structure RefAt (W : World) (ρ : Nat → Option RRole) (Y : RLay) (p z : Nat) (rows : List RRow) : Prop where
  lt : ∀ b, ρ b ≠ none → b < W.heap.size
  box : W.heap[Y.r]? = some (.cells #[Y.vr, .int .i64 p, .int .i64 z] 34 (0, 0))
  rbox : ρ Y.r = some .box
  xs : ∃ xs, W.ownsRow 0 73 3 Y.vr rows.length xs ∧ ∀ i r, rows[i]? = some r → xs[i * 3]? = some (Y.lv i) ∧ xs[i * 3 + 1]? = some (Y.pv i) ∧ xs[i * 3 + 2]? = some (.bool r.o)
  rrows : ∀ b, Y.vr.ownBlock = some b → ρ b = some .rows
  l : ∀ i r, rows[i]? = some r → W.ownsRow 0 3 1 (Y.lv i) r.l.length (r.l.map encI)
  rl : ∀ i r b, rows[i]? = some r → (Y.lv i).ownBlock = some b → ρ b = some (.l i)
  p : ∀ i r, rows[i]? = some r → W.ownsRow 0 3 1 (Y.pv i) r.ps.length (ints r.ps)
  rp : ∀ i r b, rows[i]? = some r → (Y.pv i).ownBlock = some b → ρ b = some (.p i)
/-- What else is kept. -/
structure RFr (W : World) (ρ : Nat → Option RRole) (W' : World) (ρ' : Nat → Option RRole) : Prop where
  os : W'.os = W.os
  tape : W'.tape = W.tape
  output : W'.output = W.output
  size : W.heap.size ≤ W'.heap.size
  block : ∀ k, k < W.heap.size → ρ k = none → W'.heap[k]? = W.heap[k]? ∧ ρ' k = none
def RStep (W : World) (ρ : Nat → Option RRole) (Y : RLay) (p z : Nat) (rows : List RRow) (W' : World) : Prop := ∃ ρ' Y', RefAt W' ρ' Y' p z rows ∧ Y'.r = Y.r ∧ RFr W ρ W' ρ'
section
variable {W W' : World} {ρ ρ' : Nat → Option RRole} {Y : RLay} {p z : Nat} {rows : List RRow}
theorem RefAt.keep (h : RefAt W ρ Y p z rows) (hs : W.heap.size ≤ W'.heap.size) (hk : ∀ b, ρ b ≠ none → W'.heap[b]? = W.heap[b]?) : RefAt W' ρ Y p z rows := by
  obtain ⟨xs, h1, h2⟩ := h.xs
  have n1 : ∀ {b r}, ρ b = some r → ρ b ≠ none := fun e h0 => by rw [h0] at e; cases e
  exact ⟨fun b hb => Nat.lt_of_lt_of_le (h.lt b hb) hs, (hk _ (n1 h.rbox)).trans h.box, h.rbox, ⟨xs, own_same h1 fun b hb => hk b (n1 (h.rrows b hb)), h2⟩, h.rrows,
    fun i r hr => own_same (h.l i r hr) fun b hb => hk b (n1 (h.rl i r b hr hb)), h.rl, fun i r hr => own_same (h.p i r hr) fun b hb => hk b (n1 (h.rp i r b hr hb)), h.rp⟩
theorem RefAt.below (h : RefAt W ρ Y p z rows) (hb : Below W.heap.size W W') : RefAt W' ρ Y p z rows := h.keep hb.size fun b hr => hb.block b (h.lt b hr)
theorem RefAt.drewN (h : RefAt W ρ Y p z rows) (m : Nat) : RefAt (W.drewN m) ρ Y p z rows := h.keep (Nat.le_refl _) fun _ _ => rfl
theorem RFr.refl (W : World) (ρ : Nat → Option RRole) : RFr W ρ W ρ := ⟨rfl, rfl, rfl, Nat.le_refl _, fun _ _ h => ⟨rfl, h⟩⟩
theorem RFr.drewN (W : World) (ρ : Nat → Option RRole) (m : Nat) : RFr W ρ (W.drewN m) ρ := ⟨rfl, rfl, rfl, Nat.le_refl _, fun _ _ h => ⟨rfl, h⟩⟩
theorem RStep.same (h : RefAt W ρ Y p z rows) : RStep W ρ Y p z rows W := ⟨ρ, Y, h, rfl, RFr.refl _ _⟩
theorem RStep.drewN (h : RefAt W ρ Y p z rows) (m : Nat) : RStep W ρ Y p z rows (W.drewN m) := ⟨ρ, Y, h.drewN m, rfl, RFr.drewN _ _ _⟩
theorem RefAt.cells (h : RefAt W ρ Y p z rows) : W.cell? ⟨Y.r, 0, none⟩ = some Y.vr ∧ W.cell? ⟨Y.r, 1, none⟩ = some (.int .i64 p) ∧ W.cell? ⟨Y.r, 2, none⟩ = some (.int .i64 z) ∧ W.frozen? ⟨Y.r, 0, none⟩ = false := by
  refine ⟨?_, ?_, ?_, ?_⟩ <;> simp [World.cell?, World.frozen?, h.box]
/-- The rows' slice, and what lies in it. -/
theorem RefAt.row (h : RefAt W ρ Y p z rows) {i : Nat} {r : RRow} (hr : rows[i]? = some r) : ∃ g cap, Y.vr = .slice (some ⟨g, 0, none⟩) rows.length cap ∧ g ≠ Y.r ∧ ρ g = some .rows ∧ W.cell? ⟨g, i * 3, none⟩ = some (Y.lv i) ∧ W.cell? ⟨g, i * 3 + 1, none⟩ = some (Y.pv i) ∧ W.cell? ⟨g, i * 3 + 2, none⟩ = some (.bool r.o) ∧ ∀ j, W.frozen? ⟨g, j, none⟩ = false := by
  obtain ⟨xs, h1, h2⟩ := h.xs
  have hi := (List.getElem?_eq_some_iff.1 hr).1
  obtain ⟨g, cap, e⟩ := own_addr h1 (by omega)
  obtain ⟨x0, x1, x2⟩ := h2 i r hr
  have hg := h.rrows g (by rw [e]; rfl)
  rw [e] at h1
  refine ⟨g, cap, e, ?_, hg, own_cellAt h1 x0, own_cellAt h1 x1, own_cellAt h1 x2, own_frozenAt h1⟩
  rintro rfl
  rw [h.rbox] at hg
  cases hg
theorem RefAt.form (h : RefAt W ρ Y p z rows) : ∃ A c, Y.vr = .slice A rows.length c := by
  obtain ⟨xs, h1, -⟩ := h.xs
  exact own_form h1
theorem RefAt.lForm (h : RefAt W ρ Y p z rows) {i : Nat} {r : RRow} (hr : rows[i]? = some r) : ∃ A c, Y.lv i = .slice A r.l.length c := own_form (h.l i r hr)
theorem RefAt.pForm (h : RefAt W ρ Y p z rows) {i : Nat} {r : RRow} (hr : rows[i]? = some r) : ∃ A c, Y.pv i = .slice A r.ps.length c := own_form (h.p i r hr)
end
end Go.Proofs.Ytackjeckafoojaa.Kv
namespace Go.Proofs.Ytackjeckafoojaa.Kv
open Go.RowKit
variable {W W' : World} {ρ ρ' : Nat → Option RRole} {Y : RLay} {p z : Nat} {rows : List RRow}
theorem RStep.trans {rows1 rows2 : List RRow} {W1 W2 : World} (h : RStep W ρ Y p z rows1 W1) (k : ∀ ρ' Y', RefAt W1 ρ' Y' p z rows1 → Y'.r = Y.r → RStep W1 ρ' Y' p z rows2 W2) : RStep W ρ Y p z rows2 W2 := by
  obtain ⟨ρ1, Y1, a, b, c⟩ := h
  obtain ⟨ρ2, Y2, a2, b2, c2⟩ := k ρ1 Y1 a b
  exact ⟨ρ2, Y2, a2, b2.trans b, c2.os.trans c.os, c2.tape.trans c.tape, c2.output.trans c.output, Nat.le_trans c.size c2.size, fun k hk hr => by
    obtain ⟨e1, e2⟩ := c.block k hk hr
    obtain ⟨e3, e4⟩ := c2.block k (Nat.lt_of_lt_of_le hk c.size) e2
    exact ⟨e3.trans e1, e4⟩⟩
/-- One row is another one. -/
theorem RefAt.remake (h : RefAt W ρ Y p z rows) {i : Nat} {r : RRow} (hr : rows[i]? = some r) {L P : Value} {l' : List Int} {ps' : List Nat} {o' : Bool} (hos : W'.os = W.os) (htape : W'.tape = W.tape) (hout : W'.output = W.output) (hs : W.heap.size ≤ W'.heap.size)
    (hk : ∀ b, b < W.heap.size → ρ b ≠ some .rows → ρ b ≠ some (.l i) → W'.heap[b]? = W.heap[b]?)
    (hxs : ∀ xs, W.ownsRow 0 73 3 Y.vr rows.length xs → xs[i * 3]? = some (Y.lv i) → xs[i * 3 + 1]? = some (Y.pv i) → xs[i * 3 + 2]? = some (.bool r.o) →
      ∃ xs', W'.ownsRow 0 73 3 Y.vr rows.length xs' ∧ xs'[i * 3]? = some L ∧ xs'[i * 3 + 1]? = some P ∧ xs'[i * 3 + 2]? = some (.bool o') ∧ ∀ j, j / 3 ≠ i → xs'[j]? = xs[j]?)
    (hl : W'.ownsRow 0 3 1 L l'.length (l'.map encI)) (hlb : ∀ b, L.ownBlock = some b → ρ b = some (.l i) ∨ W.heap.size ≤ b)
    (hp : W'.ownsRow 0 3 1 P ps'.length (ints ps')) (hpb : ∀ b, P.ownBlock = some b → ρ b = some (.p i) ∨ W.heap.size ≤ b)
    (hne : ∀ b, L.ownBlock = some b → P.ownBlock ≠ some b) : RStep W ρ Y p z (rows.set i ⟨l', ps', o'⟩) W' := by
  have hi := (List.getElem?_eq_some_iff.1 hr).1
  obtain ⟨xs, hx1, hx2⟩ := h.xs
  obtain ⟨y0, y1, y2⟩ := hx2 i r hr
  obtain ⟨xs', hx3, z0, z1, z2, hx4⟩ := hxs xs hx1 y0 y1 y2
  obtain ⟨ρ', hρ'⟩ : ∃ ρ' : Nat → Option RRole, ρ' = fun b => if L.ownBlock = some b then some (.l i) else if P.ownBlock = some b then some (.p i) else if b < W.heap.size then ρ b else none := ⟨_, rfl⟩
  have rL : ∀ b, L.ownBlock = some b → ρ' b = some (.l i) := fun b hb => by rw [hρ']; simp only; rw [if_pos hb]
  have rP : ∀ b, P.ownBlock = some b → ρ' b = some (.p i) := fun b hb => by rw [hρ']; simp only; rw [if_neg (fun e => hne b e hb), if_pos hb]
  have rO : ∀ b, b < W.heap.size → ρ b ≠ some (.l i) → ρ b ≠ some (.p i) → ρ' b = ρ b := fun b hb h1 h2 => by
    rw [hρ']; simp only
    rw [if_neg, if_neg, if_pos hb]
    · intro e; rcases hpb b e with e1 | e1
      · exact h2 e1
      · omega
    · intro e; rcases hlb b e with e1 | e1
      · exact h1 e1
      · omega
  have hget : ∀ j s, (rows.set i ⟨l', ps', o'⟩)[j]? = some s → (j = i ∧ s = ⟨l', ps', o'⟩) ∨ (j ≠ i ∧ rows[j]? = some s) := by
    intro j s hj
    rw [List.getElem?_set] at hj
    by_cases hji : i = j
    · rw [if_pos hji, if_pos (by omega)] at hj
      exact .inl ⟨hji.symm, (Option.some.inj hj).symm⟩
    · rw [if_neg hji] at hj
      exact .inr ⟨fun e => hji e.symm, hj⟩
  have hrb : ρ' Y.r = some .box := by rw [rO _ (h.lt _ (by rw [h.rbox]; simp)) (by rw [h.rbox]; simp) (by rw [h.rbox]; simp)]; exact h.rbox
  refine ⟨ρ', { Y with lv := fun j => if j = i then L else Y.lv j, pv := fun j => if j = i then P else Y.pv j }, ⟨?_, ?_, hrb, ⟨xs', by rw [List.length_set]; exact hx3, ?_⟩, ?_, ?_, ?_, ?_, ?_⟩, rfl, hos, htape, hout, hs, ?_⟩
  · intro b hb
    rw [hρ'] at hb
    simp only at hb
    split at hb
    · exact own_lt' hl (by assumption)
    · split at hb
      · exact own_lt' hp (by assumption)
      · split at hb
        · omega
        · exact absurd rfl hb
  · exact (hk _ (h.lt _ (by rw [h.rbox]; simp)) (by rw [h.rbox]; simp) (by rw [h.rbox]; simp)).trans h.box
  · intro j s hj
    rcases hget j s hj with ⟨rfl, rfl⟩ | ⟨hji, hj⟩
    · simp only [if_true]; exact ⟨z0, z1, z2⟩
    · simp only [hji, if_false]
      obtain ⟨a, b, c⟩ := hx2 j s hj
      exact ⟨(hx4 _ (by omega)).trans a, (hx4 _ (by omega)).trans b, (hx4 _ (by omega)).trans c⟩
  · intro b hb
    have := h.rrows b hb
    rw [rO b (h.lt b (by rw [this]; simp)) (by rw [this]; simp) (by rw [this]; simp)]
    exact this
  · intro j s hj
    rcases hget j s hj with ⟨rfl, rfl⟩ | ⟨hji, hj⟩
    · simp only [if_true]; exact hl
    · simp only [hji, if_false]
      exact own_same (h.l j s hj) fun b hb => by
        have := h.rl j s b hj hb
        exact hk b (h.lt b (by rw [this]; simp)) (by rw [this]; simp) (by rw [this]; simp; exact hji)
  · intro j s b hj hb
    rcases hget j s hj with ⟨rfl, rfl⟩ | ⟨hji, hj⟩
    · simp only [if_true] at hb; exact rL b hb
    · simp only [hji, if_false] at hb
      have := h.rl j s b hj hb
      rw [rO b (h.lt b (by rw [this]; simp)) (by rw [this]; simp; exact hji) (by rw [this]; simp)]
      exact this
  · intro j s hj
    rcases hget j s hj with ⟨rfl, rfl⟩ | ⟨hji, hj⟩
    · simp only [if_true]; exact hp
    · simp only [hji, if_false]
      exact own_same (h.p j s hj) fun b hb => by
        have := h.rp j s b hj hb
        exact hk b (h.lt b (by rw [this]; simp)) (by rw [this]; simp) (by rw [this]; simp)
  · intro j s b hj hb
    rcases hget j s hj with ⟨rfl, rfl⟩ | ⟨hji, hj⟩
    · simp only [if_true] at hb; exact rP b hb
    · simp only [hji, if_false] at hb
      have := h.rp j s b hj hb
      rw [rO b (h.lt b (by rw [this]; simp)) (by rw [this]; simp) (by rw [this]; simp; exact hji)]
      exact this
  · intro k hk' hr'
    refine ⟨hk k hk' (by rw [hr']; simp) (by rw [hr']; simp), ?_⟩
    rw [rO k hk' (by rw [hr']; simp) (by rw [hr']; simp)]
    exact hr'
/-- One row more. -/
theorem RefAt.push (h : RefAt W ρ Y p z rows) {v' L P : Value} {r : RRow} (hos : W'.os = W.os) (htape : W'.tape = W.tape) (hout : W'.output = W.output) (hs : W.heap.size ≤ W'.heap.size)
    (hk : ∀ b, b < W.heap.size → ρ b ≠ some .rows → b ≠ Y.r → W'.heap[b]? = W.heap[b]?) (hbox : W'.heap[Y.r]? = some (.cells #[v', .int .i64 p, .int .i64 z] 34 (0, 0)))
    (hv : v'.ownBlock = Y.vr.ownBlock ∨ ∀ b, v'.ownBlock = some b → W.heap.size ≤ b) (hown : ∀ xs, W.ownsRow 0 73 3 Y.vr rows.length xs → W'.ownsRow 0 73 3 v' (rows.length + 1) (xs ++ [L, P, .bool r.o]))
    (hl : W'.ownsRow 0 3 1 L r.l.length (r.l.map encI)) (hlb : ∀ b, L.ownBlock = some b → W.heap.size ≤ b)
    (hp : W'.ownsRow 0 3 1 P r.ps.length (ints r.ps)) (hpb : ∀ b, P.ownBlock = some b → W.heap.size ≤ b)
    (hne : ∀ b, L.ownBlock = some b → P.ownBlock ≠ some b) (hnl : ∀ b, L.ownBlock = some b → v'.ownBlock ≠ some b) (hnp : ∀ b, P.ownBlock = some b → v'.ownBlock ≠ some b) : RStep W ρ Y p z (rows ++ [r]) W' := by
  obtain ⟨xs, hx1, hx2⟩ := h.xs
  have hx3 := hown xs hx1
  have hxl : xs.length = rows.length * 3 := hx1.1
  obtain ⟨ρ', hρ'⟩ : ∃ ρ' : Nat → Option RRole, ρ' = fun b => if L.ownBlock = some b then some (.l rows.length) else if P.ownBlock = some b then some (.p rows.length) else if v'.ownBlock = some b then some .rows else if b < W.heap.size then ρ b else none := ⟨_, rfl⟩
  have rL : ∀ b, L.ownBlock = some b → ρ' b = some (.l rows.length) := fun b hb => by rw [hρ']; simp only; rw [if_pos hb]
  have rP : ∀ b, P.ownBlock = some b → ρ' b = some (.p rows.length) := fun b hb => by rw [hρ']; simp only; rw [if_neg (fun e => hne b e hb), if_pos hb]
  have rV : ∀ b, v'.ownBlock = some b → ρ' b = some .rows := fun b hb => by rw [hρ']; simp only; rw [if_neg (fun e => hnl b e hb), if_neg (fun e => hnp b e hb), if_pos hb]
  have rO : ∀ b, b < W.heap.size → ρ b ≠ some .rows → ρ' b = ρ b := fun b hb h1 => by
    rw [hρ']; simp only
    rw [if_neg, if_neg, if_neg, if_pos hb]
    · intro e
      rcases hv with e1 | e1
      · exact h1 (h.rrows b (by rw [← e1]; exact e))
      · have := e1 b e; omega
    · intro e; have := hpb b e; omega
    · intro e; have := hlb b e; omega
  have hget : ∀ j s, (rows ++ [r])[j]? = some s → (j = rows.length ∧ s = r) ∨ (j ≠ rows.length ∧ rows[j]? = some s) := by
    intro j s hj
    rcases Nat.lt_or_ge j rows.length with hlt | hge
    · rw [List.getElem?_append_left hlt] at hj; exact .inr ⟨by omega, hj⟩
    · have := (List.getElem?_eq_some_iff.1 hj).1
      simp at this
      obtain rfl : j = rows.length := by omega
      simp at hj
      exact .inl ⟨rfl, hj.symm⟩
  have hrb : ρ' Y.r = some .box := by rw [rO _ (h.lt _ (by rw [h.rbox]; simp)) (by rw [h.rbox]; simp)]; exact h.rbox
  refine ⟨ρ', { Y with vr := v', lv := fun j => if j = rows.length then L else Y.lv j, pv := fun j => if j = rows.length then P else Y.pv j }, ⟨?_, hbox, hrb, ⟨xs ++ [L, P, .bool r.o], by rw [List.length_append]; exact hx3, ?_⟩, rV, ?_, ?_, ?_, ?_⟩, rfl, hos, htape, hout, hs, ?_⟩
  · intro b hb
    rw [hρ'] at hb
    simp only at hb
    split at hb
    · exact own_lt' hl (by assumption)
    · split at hb
      · exact own_lt' hp (by assumption)
      · split at hb
        · exact own_lt' hx3 (by assumption)
        · split at hb
          · omega
          · exact absurd rfl hb
  · intro j s hj
    rcases hget j s hj with ⟨rfl, rfl⟩ | ⟨hji, hj⟩
    · simp only [if_true]
      refine ⟨?_, ?_, ?_⟩ <;> (rw [List.getElem?_append_right (by omega)]; simp [hxl])
    · simp only [hji, if_false]
      obtain ⟨a, b, c⟩ := hx2 j s hj
      have := (List.getElem?_eq_some_iff.1 hj).1
      exact ⟨(List.getElem?_append_left (by omega)).trans a, (List.getElem?_append_left (by omega)).trans b, (List.getElem?_append_left (by omega)).trans c⟩
  · intro j s hj
    rcases hget j s hj with ⟨rfl, rfl⟩ | ⟨hji, hj⟩
    · simp only [if_true]; exact hl
    · simp only [hji, if_false]
      exact own_same (h.l j s hj) fun b hb => by
        have := h.rl j s b hj hb
        exact hk b (h.lt b (by rw [this]; simp)) (by rw [this]; simp) (by rintro rfl; rw [h.rbox] at this; cases this)
  · intro j s b hj hb
    rcases hget j s hj with ⟨rfl, rfl⟩ | ⟨hji, hj⟩
    · simp only [if_true] at hb; exact rL b hb
    · simp only [hji, if_false] at hb
      have := h.rl j s b hj hb
      rw [rO b (h.lt b (by rw [this]; simp)) (by rw [this]; simp)]
      exact this
  · intro j s hj
    rcases hget j s hj with ⟨rfl, rfl⟩ | ⟨hji, hj⟩
    · simp only [if_true]; exact hp
    · simp only [hji, if_false]
      exact own_same (h.p j s hj) fun b hb => by
        have := h.rp j s b hj hb
        exact hk b (h.lt b (by rw [this]; simp)) (by rw [this]; simp) (by rintro rfl; rw [h.rbox] at this; cases this)
  · intro j s b hj hb
    rcases hget j s hj with ⟨rfl, rfl⟩ | ⟨hji, hj⟩
    · simp only [if_true] at hb; exact rP b hb
    · simp only [hji, if_false] at hb
      have := h.rp j s b hj hb
      rw [rO b (h.lt b (by rw [this]; simp)) (by rw [this]; simp)]
      exact this
  · intro k hk' hr'
    refine ⟨hk k hk' (by rw [hr']; simp) (by rintro rfl; rw [h.rbox] at hr'; cases hr'), ?_⟩
    rw [rO k hk' (by rw [hr']; simp)]
    exact hr'
end Go.Proofs.Ytackjeckafoojaa.Kv
