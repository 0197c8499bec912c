/- KvGoes and KvApart: what they ask of a pool: plain. -/
import Derived.Test.YtackjeckafoojaaKvDo
namespace Go.Proofs.Ytackjeckafoojaa.Kv
theorem close_len {α : Type} (s : PSt α) (id : Int) : (s.close id).1.pages.length = s.pages.length ∧ (s.close id).1.size = s.size ∧ (s.close id).1.rows.length = s.rows.length := by
  unfold PSt.close
  cases s.find id with
  | none => exact ⟨rfl, rfl, rfl⟩
  | some r =>
    obtain ⟨h1, h2, h3⟩ := decAll_len s r.1
    exact ⟨h1, h2, by show (List.set _ _ _).length = _; rw [List.length_set, h3]⟩
theorem open_len {α : Type} (s : PSt α) (ps : List Nat) (n : Nat) : (s.open_ ps n).1.pages.length = s.pages.length ∧ (s.open_ ps n).1.size = s.size ∧ (s.open_ ps n).1.rows.length ≤ s.rows.length + 1 := by
  unfold PSt.open_
  split
  · exact ⟨rfl, rfl, Nat.le_succ _⟩
  · obtain ⟨h1, h2, h3⟩ := incAll_len s ps
    exact ⟨h1, h2, by simp⟩
theorem share_len {α : Type} (s : PSt α) (id n : Int) : (s.share id n).1.pages.length = s.pages.length ∧ (s.share id n).1.size = s.size ∧ (s.share id n).1.rows.length ≤ s.rows.length + 1 := by
  unfold PSt.share
  cases s.find id with
  | none => exact ⟨rfl, rfl, by show s.rows.length ≤ _; omega⟩
  | some r =>
    simp only
    split
    · exact ⟨rfl, rfl, by show s.rows.length ≤ _; omega⟩
    · exact open_len _ _ _
theorem put_len {α : Type} (s : PSt α) (id : Nat) (ps : List Nat) (n : Nat) (x : α) : (s.put id ps n x).pages.length = s.pages.length ∧ (s.put id ps n x).size = s.size ∧ (s.put id ps n x).rows.length = s.rows.length := by
  simp [PSt.put, PSt.setPage, PSt.setRow]
theorem append_len {α : Type} (s : PSt α) (id : Int) (x : α) : (s.append id x).1.pages.length = s.pages.length ∧ (s.append id x).1.size = s.size ∧ (s.append id x).1.rows.length = s.rows.length := by
  unfold PSt.append
  cases s.find id with
  | none => exact ⟨rfl, rfl, rfl⟩
  | some r =>
    simp only
    split
    · cases s.first with
      | none => exact ⟨rfl, rfl, rfl⟩
      | some a =>
        obtain ⟨h1, h2, h3⟩ := put_len ((s.setPage a ([], 1)).setRow id.toNat (some (r.1 ++ [a], r.2))) id.toNat (r.1 ++ [a]) r.2 x
        exact ⟨h1.trans (by simp [PSt.setRow, PSt.setPage]), h2, h3.trans (by simp [PSt.setRow, PSt.setPage])⟩
    · split
      · cases s.first with
        | none => exact ⟨rfl, rfl, rfl⟩
        | some a =>
          simp [PSt.put, PSt.setPage, PSt.setRow]
      · exact put_len _ _ _ _ _
/-- A pool of p pages of z, of at most m rows. -/
structure Small (s : PSt Int) (p z m : Nat) : Prop where
  inv : Inv s
  np : s.pages.length = p
  sz : s.size = z
  rows : s.rows.length ≤ m
theorem small_do {s : PSt Int} {p z m : Nat} (h : Small s p z m) (ask id n : Int) : Small (s.do_ ask id n) p z (m + 1) := by
  refine ⟨inv_do h.inv _ _ _, ?_, ?_, ?_⟩ <;> unfold PSt.do_ <;> (repeat' split)
  · exact (open_len _ _ _).1.trans h.np
  · exact (append_len _ _ _).1.trans h.np
  · exact (share_len _ _ _).1.trans h.np
  · exact (close_len _ _).1.trans h.np
  · exact h.np
  · exact (open_len _ _ _).2.1.trans h.sz
  · exact (append_len _ _ _).2.1.trans h.sz
  · exact (share_len _ _ _).2.1.trans h.sz
  · exact (close_len _ _).2.1.trans h.sz
  · exact h.sz
  · have := (open_len s [] 0).2.2; have := h.rows; omega
  · have := (append_len s id n).2.2; have := h.rows; omega
  · have := (share_len s id n).2.2; have := h.rows; omega
  · have := (close_len s id).2.2; have := h.rows; omega
  · have := h.rows; omega
theorem small_new (p z : Nat) (hp : 1 ≤ p ∧ p ≤ 256) (hz : 1 ≤ z ∧ z ≤ 64) : Small (emptyP Int p z) p z 0 := ⟨inv_new p z hp hz, by simp [emptyP], rfl, by simp [emptyP]⟩
/-- Its first k rows are closed. -/
structure Closed (s : PSt Int) (p z k : Nat) : Prop where
  small : Small s p z 50
  none : ∀ j, j < k → s.row j = none
theorem shut_step {s : PSt Int} {p z k : Nat} (h : Closed s p z k) : Closed (s.close (k : Int)).1 p z (k + 1) := by
  obtain ⟨h1, h2, h3⟩ := close_len s (k : Int)
  refine ⟨⟨inv_closeI h.small.inv _, h1.trans h.small.np, h2.trans h.small.sz, by rw [h3]; exact h.small.rows⟩, fun j hj => ?_⟩
  cases hr : s.row k with
  | none =>
    have e : (s.close (k : Int)).1 = s := by unfold PSt.close; rw [find_none_row hr]
    rw [e]
    by_cases hjk : j = k
    · subst hjk; exact hr
    · exact h.none j (by omega)
  | some r =>
    obtain ⟨ps, n⟩ := r
    have e : (s.close (k : Int)).1 = (decAll s ps).setRow k none := by unfold PSt.close; rw [find_of_row hr]; simp
    have e1 := row_set s (s.close (k : Int)).1 (row_lt hr) none (by rw [e]; show List.set _ _ _ = _; rw [(decAll_len s ps).2.2]) j
    rw [e1]
    by_cases hjk : j = k
    · rw [if_pos hjk]
    · rw [if_neg hjk]; exact h.none j (by omega)
theorem shut_row {s : PSt Int} {p z : Nat} (h : Closed s p z 60) (j : Nat) : s.row j = none := by
  rcases Nat.lt_or_ge j 60 with hj | hj
  · exact h.none j hj
  · unfold PSt.row
    rw [List.getElem?_eq_none (by have := h.small.rows; omega)]
    rfl
theorem shut_free {s : PSt Int} {p z : Nat} (h : Closed s p z 60) : s.free = p := by
  unfold PSt.free
  have e : (List.range s.pages.length).filter (fun i => s.cnt i == 0) = List.range s.pages.length := by
    rw [List.filter_eq_self]
    intro i hi
    have hi' := List.mem_range.1 hi
    rw [h.small.inv.cnt i hi']
    have h0 : s.rows.countP (holdsR i) = 0 := by
      rw [List.countP_eq_zero]
      intro r hr
      obtain ⟨j, hj, e⟩ := List.getElem_of_mem hr
      have := shut_row h j
      unfold PSt.row at this
      rw [List.getElem?_eq_getElem hj, Option.getD_some, e] at this
      rw [this]
      simp [holdsR]
    rw [h0]
    rfl
  rw [e, List.length_range, h.small.np]
/-- One row alone is open, and has 0, 1, .., k - 1. -/
structure Goes (s : PSt Int) (p z id k : Nat) : Prop where
  inv : Inv s
  np : s.pages.length = p
  sz : s.size = z
  row : ∃ ps, s.row id = some (ps, k)
  others : ∀ j, j ≠ id → s.row j = none
  all : s.all 0 id = (List.range k).map fun i : Nat => (i : Int)
theorem goes_start {s : PSt Int} {p z : Nat} (h : Closed s p z 60) : s.open_ [] 0 = ((s.open_ [] 0).1, (s.rows.length : Int), 0) ∧ Goes (s.open_ [] 0).1 p z s.rows.length 0 := by
  have hm : s.rows.length ≠ 1024 := by have := h.small.rows; omega
  have e : s.open_ [] 0 = ({ s with rows := s.rows ++ [some ([], 0)] }, (s.rows.length : Int), 0) := by
    unfold PSt.open_
    rw [if_neg hm]
    rfl
  obtain ⟨l1, l2, l3⟩ := open_len s [] 0
  have hrow := row_append s (s.open_ [] 0).1 s.rows (some ([], 0)) (by rw [e]) rfl
  have hr : (s.open_ [] 0).1.row s.rows.length = some ([], 0) := by rw [hrow, if_pos rfl]
  refine ⟨by rw [e], inv_openI h.small.inv, l1.trans h.small.np, l2.trans h.small.sz, ⟨[], hr⟩, fun j hj => ?_, ?_⟩
  · rw [hrow, if_neg hj]; exact shut_row h j
  · rw [all_row 0 hr]; rfl
theorem goes_cnt {s : PSt Int} {p z id k : Nat} (h : Goes s p z id k) {ps : List Nat} (hr : s.row id = some (ps, k)) {i : Nat} (hi : i < p) : s.cnt i = if i ∈ ps then 1 else 0 := by
  rw [h.inv.cnt i (by rw [h.np]; exact hi)]
  obtain ⟨hid, e⟩ := row_some_get hr
  have h1 : s.rows = s.rows.set id (some (ps, k)) := by rw [← e, List.set_getElem_self]
  have h2 : (s.rows.set id none).countP (holdsR i) = 0 := by
    rw [List.countP_eq_zero]
    intro r hr
    obtain ⟨j, hj, e2⟩ := List.getElem_of_mem hr
    rw [List.getElem_set] at e2
    split at e2
    · rw [← e2]; simp [holdsR]
    · rename_i hne
      have hj' : j < s.rows.length := by simpa using hj
      have := h.others j (fun e => hne e.symm)
      unfold PSt.row at this
      rw [List.getElem?_eq_getElem hj', Option.getD_some, e2] at this
      rw [this]
      simp [holdsR]
  have h3 := countP_set_row s.rows id hid none i
  rw [h2, e] at h3
  simp only [holdsR, List.contains_iff_mem] at h3
  by_cases hm : i ∈ ps
  · simp only [hm, if_true] at h3 ⊢; simp at h3; omega
  · simp only [hm, if_false] at h3 ⊢; simp at h3; omega
theorem goes_step {s : PSt Int} {p z id k : Nat} (h : Goes s p z id k) (hk : k < p * z) : (s.append (id : Int) (k : Int)).2 = 0 ∧ Goes (s.append (id : Int) (k : Int)).1 p z id (k + 1) := by
  obtain ⟨ps, hr⟩ := h.row
  have hz := h.inv.sz
  rw [h.sz] at hz
  obtain ⟨d1, d2, d3, d4⟩ := len_div h.inv hr
  rw [h.sz] at d1 d2 d3 d4
  rcases app_all h.inv 0 hr (k : Int) with ⟨h0, hl, hrows, ha, -⟩ | ⟨he, -⟩
  · refine ⟨h0, ?_⟩
    obtain ⟨l1, l2, l3⟩ := append_len s (id : Int) (k : Int)
    rcases append_upd h.inv hr (k : Int) with ⟨o, -, u⟩ | ⟨e, -, -⟩
    · have hrow := row_set s (s.append (id : Int) (k : Int)).1 (row_lt hr) _ u.rows
      refine ⟨inv_append h.inv _ _, l1.trans h.np, l2.trans h.sz, ⟨_, by rw [hrow, if_pos rfl]⟩, fun j hj => by rw [hrow, if_neg hj]; exact h.others j hj, ?_⟩
      rw [ha, h.all, List.range_succ, List.map_append]
      rfl
    · rw [e] at h0; simp at h0
  · exfalso
    rcases append_upd h.inv hr (k : Int) with ⟨o, h0, -⟩ | ⟨-, hf, hc⟩
    · rw [he] at h0; simp at h0
    · by_cases hm : k % z = 0
      · have hlen := d3 hm
        have hlt : ps.length < p := by rw [hlen]; exact (Nat.div_lt_iff_lt_mul (by omega)).2 hk
        unfold PSt.first at hf
        rw [List.find?_eq_none] at hf
        have hsub : ∀ i ∈ List.range p, i ∈ ps := fun i hi => by
          have hi' := List.mem_range.1 hi
          have h1 := hf i (by rw [h.np]; exact hi)
          rw [goes_cnt h hr hi'] at h1
          by_cases hm : i ∈ ps
          · exact hm
          · rw [if_neg hm] at h1; simp at h1
        have := List.Nodup.length_le_of_subset (List.nodup_range (n := p)) hsub
        rw [List.length_range] at this
        omega
      · have hlen := d4 hm
        rcases hc with hc | hc
        · rw [h.sz] at hc; exact hm hc
        · have hin : ps.getD (ps.length - 1) 0 ∈ ps := by rw [getD_at _ _ (by have : 1 ≤ ps.length := (by rw [hlen]; exact Nat.succ_pos _); omega)]; exact List.getElem_mem _
          have hlt := h.inv.lt _ _ _ hr _ hin
          rw [h.np] at hlt
          rw [goes_cnt h hr hlt, if_pos hin] at hc
          omega
theorem goes_full {s : PSt Int} {p z id : Nat} (h : Goes s p z id (p * z)) (x : Int) : s.free = 0 ∧ s.append (id : Int) x = (s, 16) := by
  obtain ⟨ps, hr⟩ := h.row
  have hz := h.inv.sz
  rw [h.sz] at hz
  obtain ⟨d1, d2, d3, d4⟩ := len_div h.inv hr
  rw [h.sz] at d1 d2 d3 d4
  have hlen : ps.length = p := by rw [d3 (Nat.mul_mod_left _ _)]; exact Nat.mul_div_cancel _ (by omega)
  have hall : ∀ i, i < p → i ∈ ps := by
    intro i hi
    by_cases hm : i ∈ ps
    · exact hm
    · exfalso
      have h1 : (i :: ps).Nodup := List.nodup_cons.2 ⟨hm, h.inv.nd _ _ _ hr⟩
      have := nodup_le (m := p) h1 (fun q hq => by
        rcases List.mem_cons.1 hq with rfl | hq
        · exact hi
        · rw [← h.np]; exact h.inv.lt _ _ _ hr q hq)
      simp at this
      omega
  have hc : ∀ i, i < p → s.cnt i ≠ 0 := fun i hi => by rw [goes_cnt h hr hi, if_pos (hall i hi)]; omega
  have hf : s.first = none := by
    unfold PSt.first
    rw [List.find?_eq_none]
    intro i hi
    have := hc i (by rw [← h.np]; exact List.mem_range.1 hi)
    simpa using this
  constructor
  · unfold PSt.free
    rw [List.length_eq_zero_iff, List.filter_eq_nil_iff]
    intro i hi
    have := hc i (by rw [← h.np]; exact List.mem_range.1 hi)
    simpa using this
  · unfold PSt.append
    rw [find_of_row hr]
    simp only
    rw [if_pos (by rw [h.sz]; exact Nat.mul_mod_left _ _), hf]
end Go.Proofs.Ytackjeckafoojaa.Kv
