/- What a pool's calls make of the things that rows have: plain. -/
import Derived.Test.YtackjeckafoojaaKvAll
namespace Go.Proofs.Ytackjeckafoojaa.Kv
variable {α : Type}

theorem get_row {s : PSt α} (zero : α) {id : Nat} {ps : List Nat} {n : Nat} (hr : s.row id = some (ps, n)) {k : Nat} (hk : k < n) : (s.get zero (id : Int) (k : Int)).1 = ((s.lst (ps.getD (k / s.size) 0))[k % s.size]?).getD zero := by
  unfold PSt.get
  rw [find_of_row hr]
  simp only [Int.toNat_natCast]
  rw [if_neg (by omega)]
theorem all_row {s : PSt α} (zero : α) {id : Nat} {ps : List Nat} {n : Nat} (hr : s.row id = some (ps, n)) : s.all zero (id : Int) = (List.range n).map fun k => ((s.lst (ps.getD (k / s.size) 0))[k % s.size]?).getD zero := by
  unfold PSt.all
  rw [find_of_row hr]
  simp only
  exact List.map_congr_left fun k hk => get_row zero hr (List.mem_range.1 hk)
theorem find_none_row {s : PSt α} {id : Nat} (hr : s.row id = none) : s.find (id : Int) = none := by
  unfold PSt.find
  rw [if_pos (by omega)]
  exact hr
theorem all_none {s : PSt α} (zero : α) {id : Nat} (hr : s.row id = none) : s.all zero (id : Int) = [] := by
  unfold PSt.all
  rw [find_none_row hr]

theorem all_upd {s s' : PSt α} (h : Inv s) (zero : α) {id : Nat} {ps : List Nat} {n o : Nat} {x : α} (hr : s.row id = some (ps, n)) (u : Upd s s' id ps n o x) : s'.all zero (id : Int) = s.all zero (id : Int) ++ [x] ∧ ∀ j : Nat, j ≠ id → s'.all zero (j : Int) = s.all zero (j : Int) := by
  have hid := row_lt hr
  have hsz := h.sz
  have hrow := row_set s s' hid _ u.rows
  obtain ⟨d1, d2, d3, d4⟩ := len_div h hr
  obtain ⟨l, hl1, hl2, hl3⟩ := u.lsto
  constructor
  · have hr' : s'.row id = some (ps.take (n / s.size) ++ [o], n + 1) := by rw [hrow, if_pos rfl]
    rw [all_row zero hr', all_row zero hr, List.range_succ, List.map_append, List.map_singleton, u.size]
    congr 1
    · refine List.map_congr_left fun k hk => ?_
      have hk' := List.mem_range.1 hk
      have hkd : k / s.size ≤ n / s.size := Nat.div_le_div_right (by omega)
      rcases Nat.lt_or_ge (k / s.size) (n / s.size) with hlt | hge
      · have hkp : k / s.size < ps.length := by omega
        have e1 : (ps.take (n / s.size) ++ [o]).getD (k / s.size) 0 = ps.getD (k / s.size) 0 := by
          rw [List.getD_eq_getElem?_getD, List.getD_eq_getElem?_getD, List.getElem?_append_left (by rw [List.length_take]; omega), List.getElem?_take, if_pos hlt]
        rw [e1, u.lst]
        rw [getD_at _ _ hkp]
        intro e2
        apply u.onew
        rw [← e2]
        exact List.mem_take_iff_getElem.2 ⟨k / s.size, by omega, rfl⟩
      · have e0 : k / s.size = n / s.size := by omega
        have hm : k % s.size < n % s.size := by
          have f1 := Nat.div_add_mod n s.size
          have f2 := Nat.div_add_mod k s.size
          rw [e0] at f2
          omega
        have e1 : (ps.take (n / s.size) ++ [o]).getD (k / s.size) 0 = o := by
          rw [List.getD_eq_getElem?_getD, e0, List.getElem?_append_right (by rw [List.length_take]; omega), List.length_take, Nat.min_eq_left d1]
          simp
        rw [e1, hl1, List.getElem?_append_left (by omega), hl3 _ hm, e0]
    · have e1 : (ps.take (n / s.size) ++ [o]).getD (n / s.size) 0 = o := by
        rw [List.getD_eq_getElem?_getD, List.getElem?_append_right (by rw [List.length_take]; omega), List.length_take, Nat.min_eq_left d1]
        simp
      rw [e1, hl1, ← hl2]
      simp
  · intro j hj
    have hrj : s'.row j = s.row j := by rw [hrow, if_neg hj]
    cases hs : s.row j with
    | none => rw [all_none zero hs, all_none zero (hrj.trans hs)]
    | some r =>
      obtain ⟨qs, m⟩ := r
      rw [all_row zero hs, all_row zero (hrj.trans hs), u.size]
      refine List.map_congr_left fun k hk => ?_
      have hk' := List.mem_range.1 hk
      obtain ⟨p, y, hp, -, -, -⟩ := thing_in h zero hs hk'
      have e1 : qs.getD (k / s.size) 0 = p := by rw [List.getD_eq_getElem?_getD, hp]; rfl
      have hpo : p ≠ o := by
        rintro rfl
        exact u.free j qs m hj hs (List.mem_of_getElem? hp)
      rw [e1, u.lst p hpo]

/-- A row more that has the first things of another one. -/
theorem all_share {s : PSt α} (h : Inv s) (zero : α) {id : Nat} {ps : List Nat} {n m : Nat} (hr : s.row id = some (ps, n)) (hm : m ≤ n) :
    let s' : PSt α := { incAll s (ps.take ((m + s.size - 1) / s.size)) with rows := s.rows ++ [some (ps.take ((m + s.size - 1) / s.size), m)] }
    s'.all zero (s.rows.length : Int) = (s.all zero (id : Int)).take m ∧ ∀ j : Nat, j ≠ s.rows.length → s'.all zero (j : Int) = s.all zero (j : Int) := by
  intro s'
  have hl := incAll_len s (ps.take ((m + s.size - 1) / s.size))
  have hrow := row_append s s' s.rows (some (ps.take ((m + s.size - 1) / s.size), m)) rfl rfl
  have hlst : ∀ i, s'.lst i = s.lst i := incAll_lst s _
  have hsz' : s'.size = s.size := hl.2.1
  have hsz := h.sz
  constructor
  · have hr' : s'.row s.rows.length = some (ps.take ((m + s.size - 1) / s.size), m) := by rw [hrow, if_pos rfl]
    rw [all_row zero hr', all_row zero hr, hsz', ← List.map_take, List.take_range, Nat.min_eq_left hm]
    refine List.map_congr_left fun k hk => ?_
    have hk' := List.mem_range.1 hk
    rw [hlst]
    congr 3
    rw [List.getD_eq_getElem?_getD, List.getD_eq_getElem?_getD, List.getElem?_take, if_pos]
    rw [Nat.div_lt_iff_lt_mul (by omega)]
    have e := Nat.div_add_mod (m + s.size - 1) s.size
    have er := Nat.mod_lt (m + s.size - 1) (show 0 < s.size by omega)
    rw [Nat.mul_comm] at e
    omega
  · intro j hj
    have hrj : s'.row j = s.row j := by rw [hrow, if_neg hj]
    cases hs : s.row j with
    | none => rw [all_none zero hs, all_none zero (hrj.trans hs)]
    | some r =>
      obtain ⟨qs, m'⟩ := r
      rw [all_row zero hs, all_row zero (hrj.trans hs), hsz']
      exact List.map_congr_left fun k hk => by rw [hlst]
theorem free_congr {s t : PSt α} (hl : t.pages.length = s.pages.length) (hc : ∀ i, i < s.pages.length → (t.cnt i = 0 ↔ s.cnt i = 0)) : t.free = s.free := by
  unfold PSt.free
  rw [hl]
  congr 1
  refine List.filter_congr fun i hi => ?_
  have := hc i (List.mem_range.1 hi)
  by_cases h0 : s.cnt i = 0
  · simp [h0, this.2 h0]
  · have h1 : ¬ t.cnt i = 0 := fun h => h0 (this.1 h)
    rw [beq_eq_false_iff_ne.2 h0, beq_eq_false_iff_ne.2 h1]
theorem held_pos {s : PSt α} (h : Inv s) {id : Nat} {ps : List Nat} {n : Nat} (hr : s.row id = some (ps, n)) {i : Nat} (hi : i ∈ ps) : s.cnt i ≠ 0 := fun h0 => not_held h (h.lt _ _ _ hr _ hi) h0 _ _ _ hr hi
theorem free_share {s : PSt α} (h : Inv s) {id : Nat} {ps : List Nat} {n : Nat} (hr : s.row id = some (ps, n)) (k m : Nat) :
    ({ incAll s (ps.take k) with rows := s.rows ++ [some (ps.take k, m)] } : PSt α).free = s.free := by
  have hnd : (ps.take k).Nodup := (h.nd _ _ _ hr).sublist (List.take_sublist _ _)
  refine free_congr (incAll_len s _).1 fun i hi => ?_
  show (incAll s (ps.take k)).cnt i = 0 ↔ _
  rw [incAll_cnt_nd s _ hnd i hi]
  have := h.cnt_bound i
  by_cases hm : i ∈ ps.take k
  · rw [if_pos hm]
    have := held_pos h hr (List.mem_of_mem_take hm)
    omega
  · rw [if_neg hm]; omega
/-- An append, told of rows' things. -/
theorem app_all {s : PSt α} (h : Inv s) (zero : α) {id : Nat} {r : List Nat × Nat} (hr : s.row id = some r) (x : α) :
    ((s.append (id : Int) x).2 = 0 ∧ (s.append (id : Int) x).1.rows.length = s.rows.length ∧ (∀ j r, s.row j = some r → ∃ r', (s.append (id : Int) x).1.row j = some r') ∧
      (s.append (id : Int) x).1.all zero (id : Int) = s.all zero (id : Int) ++ [x] ∧ ∀ j : Nat, j ≠ id → (s.append (id : Int) x).1.all zero (j : Int) = s.all zero (j : Int)) ∨
    (s.append (id : Int) x = (s, 16) ∧ ∀ y, s.append (id : Int) y = (s, 16)) := by
  obtain ⟨ps, n⟩ := r
  have hid := row_lt hr
  rcases append_upd h hr x with ⟨o, h0, u⟩ | ⟨he, hf, hc⟩
  · left
    obtain ⟨a1, a2⟩ := all_upd h zero hr u
    refine ⟨h0, by rw [u.rows]; simp, ?_, a1, a2⟩
    intro j r hj
    rw [row_set s _ hid _ u.rows]
    split
    · exact ⟨_, rfl⟩
    · exact ⟨r, hj⟩
  · right
    refine ⟨he, fun y => ?_⟩
    unfold PSt.append
    rw [find_of_row hr]
    by_cases ha : n % s.size = 0
    · simp only [if_pos ha, hf]
    · rcases hc with hc | hc
      · exact absurd hc ha
      · simp only [if_neg ha, if_pos hc, hf]
theorem all_length {s : PSt α} (zero : α) {id : Nat} {ps : List Nat} {n : Nat} (hr : s.row id = some (ps, n)) : (s.all zero (id : Int)).length = n := by
  rw [all_row zero hr]; simp
end Go.Proofs.Ytackjeckafoojaa.Kv
