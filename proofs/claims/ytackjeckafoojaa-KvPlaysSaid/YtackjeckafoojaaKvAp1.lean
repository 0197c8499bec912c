/- KvApart: what it asks of a pool: plain; and the rows that are kept beside it. -/
import Derived.Test.YtackjeckafoojaaKvGo2
namespace Go.Proofs.Ytackjeckafoojaa.Kv
/-- A row's pages. -/
def PSt.pagesOf (s : PSt Int) (id : Nat) : List Nat := ((s.find (id : Int)).map (·.1)).getD []
theorem pagesOf_row (s : PSt Int) (id : Nat) : s.pagesOf id = ((s.row id).map (·.1)).getD [] := by
  unfold PSt.pagesOf PSt.find
  rw [if_pos (by omega)]
  rfl
def heldTo (s : PSt Int) (i : Nat) : Nat := ((List.range i).map fun j => (s.pagesOf j).length).sum
def sumTo (s : PSt Int) (i : Nat) : Nat := ((List.range i).map fun j => s.rows.countP (holdsR j)).sum
def freeTo (s : PSt Int) (i : Nat) : Nat := ((List.range i).filter fun j => s.cnt j == 0).length
theorem heldTo_succ (s : PSt Int) (i : Nat) : heldTo s (i + 1) = heldTo s i + (s.pagesOf i).length := by simp [heldTo, List.range_succ]
theorem sumTo_succ (s : PSt Int) (i : Nat) : sumTo s (i + 1) = sumTo s i + s.rows.countP (holdsR i) := by simp [sumTo, List.range_succ]
theorem freeTo_succ (s : PSt Int) (i : Nat) : freeTo s (i + 1) = freeTo s i + (if s.cnt i = 0 then 1 else 0) := by
  unfold freeTo
  rw [List.range_succ, List.filter_append, List.length_append]
  by_cases h : s.cnt i = 0 <;> simp [h]
theorem pages_le {s : PSt Int} (h : Inv s) (j : Nat) : (s.pagesOf j).length ≤ 256 := by
  rw [pagesOf_row]
  cases hr : s.row j with
  | none => simp
  | some r =>
    obtain ⟨ps, n⟩ := r
    have := nodup_le (h.nd _ _ _ hr) (h.lt _ _ _ hr)
    have := h.np
    show ps.length ≤ 256
    omega
theorem heldTo_le {s : PSt Int} (h : Inv s) (i : Nat) : heldTo s i ≤ i * 256 := by
  induction i with
  | zero => simp [heldTo]
  | succ i ih => rw [heldTo_succ]; have := pages_le h i; omega
theorem sumTo_le {s : PSt Int} (h : Inv s) (i : Nat) : sumTo s i ≤ i * 1024 := by
  induction i with
  | zero => simp [sumTo]
  | succ i ih => rw [sumTo_succ]; have := List.countP_le_length (p := holdsR i) (l := s.rows); have := h.many; omega
theorem freeTo_le (s : PSt Int) (i : Nat) : freeTo s i ≤ i := by
  induction i with
  | zero => simp [freeTo]
  | succ i ih => rw [freeTo_succ]; split <;> omega
def lenOf (r : Option (List Nat × Nat)) : Nat := ((r.map (·.1)).getD []).length
theorem count_range {ps : List Nat} (hn : ps.Nodup) : ∀ {p : Nat}, (∀ q ∈ ps, q < p) → ((List.range p).filter fun j => ps.contains j).length = ps.length := by
  intro p hp
  have h1 : ((List.range p).filter fun j => ps.contains j).Nodup := (List.nodup_range).filter _
  refine Nat.le_antisymm (List.Nodup.length_le_of_subset h1 fun q hq => ?_) (List.Nodup.length_le_of_subset hn fun q hq => ?_)
  · have := (List.mem_filter.1 hq).2
    simpa using this
  · exact List.mem_filter.2 ⟨List.mem_range.2 (hp q hq), by simpa using hq⟩
theorem sum_map_add (l : List Nat) (f g : Nat → Nat) : (l.map fun j => f j + g j).sum = (l.map f).sum + (l.map g).sum := by
  induction l with
  | nil => rfl
  | cons a l ih => simp [ih]; omega
theorem sum_ite (l : List Nat) (f : Nat → Bool) : (l.map fun j => if f j = true then 1 else 0).sum = (l.filter f).length := by
  induction l with
  | nil => rfl
  | cons a l ih =>
    rw [List.map_cons, List.sum_cons, ih]
    by_cases h : f a = true
    · rw [List.filter_cons_of_pos h, if_pos h, List.length_cons]; omega
    · rw [List.filter_cons_of_neg h, if_neg h]; omega
theorem sum_rows (p : Nat) : ∀ rows : List (Option (List Nat × Nat)), (∀ r ∈ rows, ∀ ps n, r = some (ps, n) → ps.Nodup ∧ ∀ q ∈ ps, q < p) → ((List.range p).map fun j => rows.countP (holdsR j)).sum = (rows.map lenOf).sum := by
  intro rows
  induction rows with
  | nil =>
    intro _
    simp only [List.countP_nil, List.map_nil, List.sum_nil]
    induction p with
    | zero => rfl
    | succ p ih => rw [List.range_succ, List.map_append, List.sum_append, ih (fun r hr => by simp at hr)]; rfl
  | cons r rows ih =>
    intro h
    rw [List.map_cons, List.sum_cons, ← ih (fun r' hr' => h r' (List.mem_cons_of_mem _ hr'))]
    have e : (fun j => (r :: rows).countP (holdsR j)) = fun j => (if holdsR j r = true then 1 else 0) + rows.countP (holdsR j) := by
      funext j
      rw [List.countP_cons]
      omega
    rw [e, sum_map_add, sum_ite]
    congr 1
    cases r with
    | none => simp [holdsR, lenOf]
    | some r =>
      obtain ⟨ps, n⟩ := r
      obtain ⟨h1, h2⟩ := h _ (List.mem_cons_self ..) ps n rfl
      exact count_range h1 h2
theorem range_rows (rows : List (Option (List Nat × Nat))) : ∀ m, rows.length ≤ m → ((List.range m).map fun j => lenOf ((rows[j]?).getD none)).sum = (rows.map lenOf).sum := by
  intro m
  induction m with
  | zero => intro h; rw [List.length_eq_zero_iff.1 (Nat.le_zero.1 h)]; rfl
  | succ m ih =>
    intro h
    rw [List.range_succ, List.map_append, List.sum_append]
    by_cases hm : rows.length ≤ m
    · rw [ih hm, List.map_singleton, List.getElem?_eq_none hm]; simp [lenOf]
    · have hl : rows.length = m + 1 := by omega
      obtain ⟨r0, a, rfl⟩ : ∃ r0 a, rows = r0 ++ [a] := ⟨rows.dropLast, rows.getLast (by intro e; rw [e] at hl; simp at hl), (List.dropLast_concat_getLast _).symm⟩
      simp at hl
      have e : (List.range m).map (fun j => lenOf (((r0 ++ [a])[j]?).getD none)) = (List.range m).map fun j => lenOf ((r0[j]?).getD none) :=
        List.map_congr_left fun j hj => by rw [List.getElem?_append_left (by have := List.mem_range.1 hj; omega)]
      rw [e]
      have e2 : ((List.range m).map fun j => lenOf ((r0[j]?).getD none)).sum = (r0.map lenOf).sum := by
        rw [← hl]
        congr 1
        refine List.ext_getElem (by simp) fun i h1 h2 => ?_
        simp at h1
        simp [h1]
      rw [e2, List.map_append, List.sum_append]
      congr 1
      simp [hl]
theorem sum_held {s : PSt Int} (h : Inv s) (hr : s.rows.length ≤ 60) : sumTo s s.pages.length = heldTo s 60 := by
  have e1 : heldTo s 60 = (s.rows.map lenOf).sum := by
    rw [← range_rows s.rows 60 hr]
    unfold heldTo
    exact congrArg List.sum (List.map_congr_left fun j _ => by rw [pagesOf_row]; rfl)
  rw [e1]
  refine sum_rows s.pages.length s.rows fun r hr ps n e => ?_
  subst e
  obtain ⟨j, hj, e⟩ := List.getElem_of_mem hr
  have hrow : s.row j = some (ps, n) := by unfold PSt.row; rw [List.getElem?_eq_getElem hj, e]; rfl
  exact ⟨h.nd _ _ _ hrow, h.lt _ _ _ hrow⟩
theorem free_to (s : PSt Int) : freeTo s s.pages.length = s.free := rfl
/-- What is appended to a row turns no other one. -/
theorem app_rows {s : PSt Int} (h : Inv s) (id x : Int) (j : Nat) : (s.append id x).1.all 0 (j : Int) = if (j : Int) = id ∧ (s.append id x).2 = 0 then s.all 0 (j : Int) ++ [x] else s.all 0 (j : Int) := by
  cases hf : s.find id with
  | none =>
    have e : s.append id x = (s, 14) := by unfold PSt.append; rw [hf]
    rw [e]
    simp
  | some r =>
    obtain ⟨h0, hr⟩ := KvI.find_row hf
    obtain ⟨id, rfl⟩ := Int.eq_ofNat_of_zero_le h0
    rw [Int.toNat_natCast] at hr
    rcases app_all h 0 hr x with ⟨h1, -, -, h2, h3⟩ | ⟨h1, -⟩
    · rw [h1]
      by_cases hj : j = id
      · subst hj; rw [h2]; simp
      · rw [h3 j hj, if_neg (by omega)]
    · rw [h1]; simp
theorem all_le {s : PSt Int} {p z m : Nat} (h : Small s p z m) (hp : p ≤ 12) (hz : z ≤ 8) (id : Nat) : (s.all 0 (id : Int)).length ≤ 96 := by
  cases hr : s.row id with
  | none => rw [all_none 0 hr]; simp
  | some r =>
    obtain ⟨ps, n⟩ := r
    rw [all_length 0 hr]
    have h1 := nodup_le (h.inv.nd _ _ _ hr) (h.inv.lt _ _ _ hr)
    obtain ⟨-, -, d3, d4⟩ := len_div h.inv hr
    have hsz := h.inv.sz
    have hm := Nat.div_add_mod n s.size
    have hml := Nat.mod_lt n (show 0 < s.size by omega)
    rw [h.np] at h1
    have h2 : n ≤ s.size * ps.length := by
      by_cases h0 : n % s.size = 0
      · rw [d3 h0]; omega
      · rw [d4 h0, Nat.mul_add]; omega
    have h3 : s.size * ps.length ≤ 8 * 12 := Nat.mul_le_mul (by rw [h.sz]; exact hz) (by omega)
    omega
end Go.Proofs.Ytackjeckafoojaa.Kv
