/- What is always so of a pool, and what its calls make of its rows: plain. -/
import Derived.Test.YtackjeckafoojaaKvOps
namespace Go.Proofs.Ytackjeckafoojaa.Kv
variable {α : Type}

theorem incAll_lst (s : PSt α) (ps : List Nat) (i : Nat) : (incAll s ps).lst i = s.lst i := by
  induction ps generalizing s with
  | nil => rfl
  | cons p ps ih =>
    rw [incAll, ih]
    by_cases hp : p = i
    · subst hp
      by_cases hlt : p < s.pages.length
      · rw [setPage_lst_same hlt]
      · unfold PSt.lst PSt.setPage
        rw [List.set_eq_of_length_le (by omega)]
    · rw [setPage_lst_other hp]
theorem decAll_lst (s : PSt α) (ps : List Nat) (i : Nat) : (decAll s ps).lst i = s.lst i := by
  induction ps generalizing s with
  | nil => rfl
  | cons p ps ih =>
    rw [decAll, ih]
    by_cases hp : p = i
    · subst hp
      by_cases hlt : p < s.pages.length
      · rw [setPage_lst_same hlt]
      · unfold PSt.lst PSt.setPage
        rw [List.set_eq_of_length_le (by omega)]
    · rw [setPage_lst_other hp]
theorem incAll_cnt_nd (s : PSt α) (ps : List Nat) (hn : ps.Nodup) (i : Nat) (hi : i < s.pages.length) : (incAll s ps).cnt i = s.cnt i + (if i ∈ ps then 1 else 0) := by
  induction ps generalizing s with
  | nil => simp [incAll]
  | cons p ps ih =>
    obtain ⟨hp, hn⟩ := List.nodup_cons.1 hn
    rw [incAll, ih _ hn (by rw [setPage_len]; exact hi)]
    by_cases hpi : p = i
    · subst hpi
      rw [setPage_cnt_same hi, if_neg hp, if_pos (List.mem_cons_self ..)]
      simp
    · rw [setPage_cnt_other hpi]
      simp [Ne.symm hpi]
theorem decAll_cnt_nd (s : PSt α) (ps : List Nat) (hn : ps.Nodup) (i : Nat) (hi : i < s.pages.length) : (decAll s ps).cnt i = s.cnt i - (if i ∈ ps then 1 else 0) := by
  induction ps generalizing s with
  | nil => simp [decAll]
  | cons p ps ih =>
    obtain ⟨hp, hn⟩ := List.nodup_cons.1 hn
    rw [decAll, ih _ hn (by rw [setPage_len]; exact hi)]
    by_cases hpi : p = i
    · subst hpi
      rw [setPage_cnt_same hi, if_neg hp, if_pos (List.mem_cons_self ..)]
      simp
    · rw [setPage_cnt_other hpi]
      simp [Ne.symm hpi]

theorem row_append (s t : PSt α) (rows : List (Option (List Nat × Nat))) (r : Option (List Nat × Nat)) (h : t.rows = rows ++ [r]) (hs : s.rows = rows) (j : Nat) : t.row j = if j = rows.length then r else s.row j := by
  unfold PSt.row
  rw [h, hs]
  by_cases hj : j = rows.length
  · subst hj; simp
  · rw [if_neg hj]
    rcases Nat.lt_or_ge j rows.length with hlt | hge
    · rw [List.getElem?_append_left hlt]
    · rw [List.getElem?_eq_none (by simp; omega), List.getElem?_eq_none hge]
theorem row_set (s t : PSt α) {id : Nat} (hid : id < s.rows.length) (r : Option (List Nat × Nat)) (h : t.rows = s.rows.set id r) (j : Nat) : t.row j = if j = id then r else s.row j := by
  unfold PSt.row
  rw [h]
  by_cases hj : j = id
  · subst hj; simp [hid]
  · rw [if_neg hj, List.getElem?_set_ne (Ne.symm hj)]

theorem inv_new (p z : Nat) (hp : 1 ≤ p ∧ p ≤ 256) (hz : 1 ≤ z ∧ z ≤ 64) : Inv (emptyP α p z) := by
  have hr : ∀ id, (emptyP α p z).row id = none := fun id => by simp [emptyP, PSt.row]
  refine ⟨hz, by simp [emptyP]; omega, by simp [emptyP], ?_, ?_, ?_, ?_, ?_, ?_⟩
  · intro id ps n h; rw [hr] at h; cases h
  · intro id ps n h; rw [hr] at h; cases h
  · intro id ps n h; rw [hr] at h; cases h
  · intro id ps n h; rw [hr] at h; cases h
  · intro i; rw [emptyP_lst]; simp
  · intro i hi; rw [emptyP_cnt]; simp [emptyP]

/-- A row may be added. -/
theorem inv_open {s : PSt α} (h : Inv s) (ps : List Nat) (n : Nat) (hm : s.rows.length ≠ 1024) (hlt : ∀ p ∈ ps, p < s.pages.length) (hlen : ps.length = (n + s.size - 1) / s.size) (hnd : ps.Nodup) (hfull : ∀ k (hk : k < ps.length), min s.size (n - k * s.size) ≤ (s.lst ps[k]).length) :
    Inv { incAll s ps with rows := s.rows ++ [some (ps, n)] } := by
  have hl := incAll_len s ps
  have hrow := row_append s { incAll s ps with rows := s.rows ++ [some (ps, n)] } s.rows (some (ps, n)) rfl rfl
  have hlst : ∀ i, ({ incAll s ps with rows := s.rows ++ [some (ps, n)] } : PSt α).lst i = s.lst i := incAll_lst s ps
  refine ⟨by show 1 ≤ (incAll s ps).size ∧ (incAll s ps).size ≤ 64; rw [hl.2.1]; exact h.sz, by show 1 ≤ (incAll s ps).pages.length ∧ (incAll s ps).pages.length ≤ 256; rw [hl.1]; exact h.np, by have := h.many; simp; omega, ?_, ?_, ?_, ?_, ?_, ?_⟩
  · intro id qs m hr
    show ∀ p ∈ qs, p < (incAll s ps).pages.length
    rw [hl.1]
    rw [hrow] at hr
    split at hr
    · injection hr with hr; injection hr with e1 e2; subst e1; exact hlt
    · exact h.lt _ _ _ hr
  · intro id qs m hr
    show qs.length = (m + (incAll s ps).size - 1) / (incAll s ps).size
    rw [hl.2.1]
    rw [hrow] at hr
    split at hr
    · injection hr with hr; injection hr with e1 e2; subst e1 e2; exact hlen
    · exact h.len _ _ _ hr
  · intro id qs m hr
    rw [hrow] at hr
    split at hr
    · injection hr with hr; injection hr with e1 e2; subst e1; exact hnd
    · exact h.nd _ _ _ hr
  · intro id qs m hr k hk
    show min (incAll s ps).size (m - k * (incAll s ps).size) ≤ _
    rw [hl.2.1, hlst]
    rw [hrow] at hr
    split at hr
    · injection hr with hr; injection hr with e1 e2; subst e1 e2; exact hfull k hk
    · exact h.full _ _ _ hr k hk
  · intro i
    show _ ≤ (incAll s ps).size
    rw [hlst, hl.2.1]; exact h.lim i
  · intro i hi
    have hi' : i < s.pages.length := by have : i < (incAll s ps).pages.length := hi; rw [hl.1] at this; exact this
    show (incAll s ps).cnt i = ((s.rows ++ [some (ps, n)]).countP (holdsR i) : Nat)
    rw [incAll_cnt_nd s ps hnd i hi', h.cnt i hi', List.countP_append]
    by_cases hm : i ∈ ps
    · simp [List.countP_cons, holdsR, hm]
    · simp [List.countP_cons, holdsR, hm]

theorem countP_set_row (rows : List (Option (List Nat × Nat))) (id : Nat) (hid : id < rows.length) (r : Option (List Nat × Nat)) (i : Nat) :
    (((rows.set id r).countP (holdsR i) : Nat) : Int) = ((rows.countP (holdsR i) : Nat) : Int) - (if holdsR i rows[id] then 1 else 0) + (if holdsR i r then 1 else 0) := by
  rw [List.countP_set hid]
  have : (if holdsR i rows[id] = true then 1 else 0) ≤ rows.countP (holdsR i) := by
    split
    · rename_i h
      exact List.countP_pos_iff.2 ⟨_, List.getElem_mem hid, h⟩
    · omega
  by_cases h1 : holdsR i rows[id] = true <;> by_cases h2 : holdsR i r = true <;> simp only [h1, h2, if_true, if_false, Bool.false_eq_true] at this ⊢ <;> omega

theorem inv_close {s : PSt α} (h : Inv s) {id : Nat} {ps : List Nat} {n : Nat} (hr : s.row id = some (ps, n)) : Inv ((decAll s ps).setRow id none) := by
  have hl := decAll_len s ps
  have hid := row_lt hr
  have hrow := row_set s ((decAll s ps).setRow id none) hid none (by show (decAll s ps).rows.set id none = _; rw [hl.2.2])
  have hlst : ∀ i, ((decAll s ps).setRow id none).lst i = s.lst i := decAll_lst s ps
  have hro : ∀ j r, ((decAll s ps).setRow id none).row j = some r → s.row j = some r := by
    intro j r hj
    rw [hrow] at hj
    split at hj
    · cases hj
    · exact hj
  refine ⟨by show 1 ≤ (decAll s ps).size ∧ (decAll s ps).size ≤ 64; rw [hl.2.1]; exact h.sz, by show 1 ≤ (decAll s ps).pages.length ∧ (decAll s ps).pages.length ≤ 256; rw [hl.1]; exact h.np, by have := h.many; simp [PSt.setRow, hl.2.2]; omega, ?_, ?_, ?_, ?_, ?_, ?_⟩
  · intro j qs m hj
    show ∀ p ∈ qs, p < (decAll s ps).pages.length
    rw [hl.1]; exact h.lt _ _ _ (hro _ _ hj)
  · intro j qs m hj
    show qs.length = (m + (decAll s ps).size - 1) / (decAll s ps).size
    rw [hl.2.1]; exact h.len _ _ _ (hro _ _ hj)
  · intro j qs m hj; exact h.nd _ _ _ (hro _ _ hj)
  · intro j qs m hj k hk
    show min (decAll s ps).size (m - k * (decAll s ps).size) ≤ _
    rw [hl.2.1, hlst]; exact h.full _ _ _ (hro _ _ hj) k hk
  · intro i
    show _ ≤ (decAll s ps).size
    rw [hlst, hl.2.1]; exact h.lim i
  · intro i hi
    have hi' : i < s.pages.length := by have : i < (decAll s ps).pages.length := hi; rw [hl.1] at this; exact this
    show (decAll s ps).cnt i = (((decAll s ps).rows.set id none).countP (holdsR i) : Nat)
    rw [hl.2.2, decAll_cnt_nd s ps (h.nd _ _ _ hr) i hi', h.cnt i hi', countP_set_row _ _ hid]
    have e : s.rows[id] = some (ps, n) := by
      unfold PSt.row at hr
      rw [List.getElem?_eq_getElem hid] at hr
      simpa using hr
    rw [e]
    simp [holdsR]

/-- A row with one thing more: what becomes of the state. -/
structure Upd (s s' : PSt α) (id : Nat) (ps : List Nat) (n o : Nat) (x : α) : Prop where
  size : s'.size = s.size
  plen : s'.pages.length = s.pages.length
  rows : s'.rows = s.rows.set id (some (ps.take (n / s.size) ++ [o], n + 1))
  ol : o < s.pages.length
  onew : o ∉ ps.take (n / s.size)
  free : ∀ j qs m, j ≠ id → s.row j = some (qs, m) → o ∉ qs
  lsto : ∃ l, s'.lst o = l ++ [x] ∧ l.length = n % s.size ∧ ∀ j, j < n % s.size → l[j]? = (s.lst (ps.getD (n / s.size) 0))[j]?
  lst : ∀ i, i ≠ o → s'.lst i = s.lst i
  cnt : ∀ i, i < s.pages.length → s'.cnt i = s.cnt i - (if i ∈ ps then 1 else 0) + (if i ∈ ps.take (n / s.size) ++ [o] then 1 else 0)

theorem len_div {s : PSt α} (h : Inv s) {id : Nat} {ps : List Nat} {n : Nat} (hr : s.row id = some (ps, n)) : n / s.size ≤ ps.length ∧ ps.length ≤ n / s.size + 1 ∧ (n % s.size = 0 → ps.length = n / s.size) ∧ (n % s.size ≠ 0 → ps.length = n / s.size + 1) := by
  have hsz := h.sz
  have hl := h.len _ _ _ hr
  have f1 := Nat.div_add_mod n s.size
  have f2 := Nat.mod_lt n (show 0 < s.size by omega)
  obtain ⟨a, hA⟩ : ∃ a, a = n % s.size := ⟨_, rfl⟩
  obtain ⟨d, hD⟩ : ∃ d, d = n / s.size := ⟨_, rfl⟩
  rw [← hA, ← hD] at f1
  rw [← hA] at f2
  rw [← hA, ← hD]
  by_cases ha : a = 0
  · have : ps.length = d := by
      rw [hl, ← f1, ha]
      rw [show s.size * d + 0 + s.size - 1 = (s.size - 1) + s.size * d by omega, Nat.add_mul_div_left _ _ (by omega), Nat.div_eq_of_lt (by omega)]
      omega
    omega
  · have : ps.length = d + 1 := by
      rw [hl, ← f1]
      rw [show s.size * d + a + s.size - 1 = (a - 1) + s.size * (d + 1) by rw [Nat.mul_add]; omega, Nat.add_mul_div_left _ _ (by omega), Nat.div_eq_of_lt (by omega)]
      omega
    omega

theorem inv_upd {s s' : PSt α} (h : Inv s) {id : Nat} {ps : List Nat} {n o : Nat} {x : α} (hr : s.row id = some (ps, n)) (u : Upd s s' id ps n o x) : Inv s' := by
  have hid := row_lt hr
  have hsz := h.sz
  have hrow := row_set s s' hid _ u.rows
  obtain ⟨d1, d2, d3, d4⟩ := len_div h hr
  have f1 := Nat.div_add_mod n s.size
  have f2 := Nat.mod_lt n (show 0 < s.size by omega)
  obtain ⟨l, hl1, hl2, hl3⟩ := u.lsto
  have hlo : (s'.lst o).length = n % s.size + 1 := by rw [hl1]; simp [hl2]
  obtain ⟨d, hD⟩ : ∃ d, d = n / s.size := ⟨_, rfl⟩
  obtain ⟨a, hA⟩ : ∃ a, a = n % s.size := ⟨_, rfl⟩
  have uf := u.free
  have uc := u.cnt
  have ur := u.rows
  have un := u.onew
  rw [← hD] at d1 d2 d3 d4 f1 hrow uc ur un
  rw [← hA] at d3 d4 f1 f2 hlo
  have htl : (ps.take d).length = d := by rw [List.length_take]; omega
  refine ⟨by rw [u.size]; exact h.sz, by rw [u.plen]; exact h.np, by rw [ur]; simpa using h.many, ?_, ?_, ?_, ?_, ?_, ?_⟩
  · intro j qs m hj
    rw [u.plen]
    rw [hrow] at hj
    split at hj
    · injection hj with hj; injection hj with e1 e2; subst e1
      intro p hp
      rcases List.mem_append.1 hp with hp | hp
      · exact h.lt _ _ _ hr p (List.mem_of_mem_take hp)
      · rw [List.mem_singleton] at hp; subst hp; exact u.ol
    · exact h.lt _ _ _ hj
  · intro j qs m hj
    rw [u.size]
    rw [hrow] at hj
    split at hj
    · injection hj with hj; injection hj with e1 e2; subst e1 e2
      rw [List.length_append, htl, List.length_singleton]
      rw [← f1, show s.size * d + a + 1 + s.size - 1 = a + s.size * (d + 1) by rw [Nat.mul_add]; omega, Nat.add_mul_div_left _ _ (by omega), Nat.div_eq_of_lt f2]
      omega
    · exact h.len _ _ _ hj
  · intro j qs m hj
    rw [hrow] at hj
    split at hj
    · injection hj with hj; injection hj with e1 e2; subst e1
      rw [List.nodup_append]
      refine ⟨(h.nd _ _ _ hr).sublist (List.take_sublist _ _), by simp, ?_⟩
      intro p hp q hq
      rw [List.mem_singleton] at hq; subst hq
      rintro rfl
      exact un hp
    · exact h.nd _ _ _ hj
  · intro j qs m hj k hk
    rw [u.size]
    rw [hrow] at hj
    split at hj
    · injection hj with hj; injection hj with e1 e2; subst e1 e2
      rw [List.length_append, htl, List.length_singleton] at hk
      by_cases hkd : k = d
      · subst hkd
        have e : (ps.take k ++ [o])[k]'(by rw [List.length_append, htl, List.length_singleton]; omega) = o := by
          rw [List.getElem_append_right (by omega)]; simp
        rw [e, hlo, Nat.mul_comm]
        omega
      · have hkd' : k < d := by omega
        have e : (ps.take d ++ [o])[k]'(by rw [List.length_append, htl, List.length_singleton]; omega) = ps[k]'(by omega) := by
          rw [List.getElem_append_left (by omega), List.getElem_take]
        rw [e]
        have hne : ps[k]'(by omega) ≠ o := by
          intro e2
          apply un
          rw [← e2]
          exact List.mem_take_iff_getElem.2 ⟨k, by omega, rfl⟩
        rw [u.lst _ hne]
        have hf := h.full _ _ _ hr k (by omega)
        have hm : k * s.size + s.size ≤ n := by
          have : (k + 1) * s.size ≤ d * s.size := Nat.mul_le_mul_right _ (by omega)
          rw [Nat.add_mul, Nat.one_mul] at this
          rw [Nat.mul_comm] at f1
          omega
        omega
    · rename_i hne
      have hno : ∀ (hk : k < qs.length), qs[k] ≠ o := fun hk e => uf j qs m hne hj (e ▸ List.getElem_mem hk)
      rw [u.lst _ (hno hk)]
      exact h.full _ _ _ hj k hk
  · intro i
    rw [u.size]
    by_cases hio : i = o
    · subst hio; rw [hlo]; omega
    · rw [u.lst i hio]; exact h.lim i
  · intro i hi
    rw [u.plen] at hi
    rw [uc i hi, h.cnt i hi, ur, countP_set_row _ _ hid]
    have e : s.rows[id] = some (ps, n) := by
      unfold PSt.row at hr
      rw [List.getElem?_eq_getElem hid] at hr
      simpa using hr
    rw [e]
    simp [holdsR]
theorem row_some_get {s : PSt α} {id : Nat} {r : List Nat × Nat} (hr : s.row id = some r) : ∃ h : id < s.rows.length, s.rows[id] = some r := by
  have hid := row_lt hr
  refine ⟨hid, ?_⟩
  unfold PSt.row at hr
  rw [List.getElem?_eq_getElem hid] at hr
  simpa using hr
theorem not_held {s : PSt α} (h : Inv s) {i : Nat} (hi : i < s.pages.length) (h0 : s.cnt i = 0) : ∀ j qs m, s.row j = some (qs, m) → i ∉ qs := by
  intro j qs m hj hm
  rw [h.cnt i hi] at h0
  have h0' : s.rows.countP (holdsR i) = 0 := by omega
  obtain ⟨hjl, e⟩ := row_some_get hj
  have := List.countP_eq_zero.1 h0' (s.rows[j]) (List.getElem_mem hjl)
  rw [e] at this
  simp [holdsR] at this
  exact this hm
theorem only_held {s : PSt α} (h : Inv s) {i id : Nat} {ps : List Nat} {n : Nat} (hi : i < s.pages.length) (hr : s.row id = some (ps, n)) (hm : i ∈ ps) (h1 : s.cnt i ≤ 1) : ∀ j qs m, j ≠ id → s.row j = some (qs, m) → i ∉ qs := by
  intro j qs m hne hj hmq
  obtain ⟨hidl, e⟩ := row_some_get hr
  have hc := countP_set_row s.rows id hidl none i
  rw [e, ← h.cnt i hi] at hc
  have e1 : holdsR i (some (ps, n)) = true := by simp [holdsR, hm]
  rw [if_pos e1, if_neg (by simp [holdsR])] at hc
  have h0' : (s.rows.set id none).countP (holdsR i) = 0 := by omega
  obtain ⟨hjl, e2⟩ := row_some_get hj
  have hjl' : j < (s.rows.set id none).length := by simpa using hjl
  have := List.countP_eq_zero.1 h0' ((s.rows.set id none)[j]) (List.getElem_mem hjl')
  rw [List.getElem_set_ne (Ne.symm hne), e2] at this
  simp [holdsR] at this
  exact this hmq

theorem find_of_row {s : PSt α} {id : Nat} {r : List Nat × Nat} (hr : s.row id = some r) : s.find (id : Int) = some r := by
  unfold PSt.find
  rw [if_pos (by omega)]
  exact hr
theorem set_last (ps : List Nat) (k u : Nat) (hk : ps.length = k + 1) : ps.set k u = ps.take k ++ [u] := by
  rw [List.set_eq_take_append_cons_drop, if_pos (by omega), List.drop_eq_nil_of_le (by omega)]
theorem getD_last (ps : List Nat) (u : Nat) : (ps ++ [u]).getD ((ps ++ [u]).length - 1) 0 = u := by
  rw [List.getD_eq_getElem?_getD]; simp
theorem getD_at (ps : List Nat) (k : Nat) (hk : k < ps.length) : ps.getD k 0 = ps[k] := by
  rw [List.getD_eq_getElem?_getD, List.getElem?_eq_getElem hk]; rfl
theorem take_last (ps : List Nat) (k : Nat) (hk : ps.length = k + 1) : ps = ps.take k ++ [ps.getD k 0] := by
  rw [getD_at _ _ (by omega)]
  conv => lhs; rw [← List.take_length (l := ps), hk, List.take_succ_eq_append_getElem (by omega)]

theorem append_upd {s : PSt α} (h : Inv s) {id : Nat} {ps : List Nat} {n : Nat} (hr : s.row id = some (ps, n)) (x : α) :
    (∃ o, (s.append (id : Int) x).2 = 0 ∧ Upd s (s.append (id : Int) x).1 id ps n o x) ∨ (s.append (id : Int) x = (s, 16) ∧ s.first = none ∧ (n % s.size = 0 ∨ 1 < s.cnt (ps.getD (ps.length - 1) 0))) := by
  have hid := row_lt hr
  have hsz := h.sz
  obtain ⟨d1, d2, d3, d4⟩ := len_div h hr
  unfold PSt.append
  rw [find_of_row hr]
  simp only [Int.toNat_natCast]
  by_cases ha : n % s.size = 0
  · rw [if_pos ha]
    cases hf : s.first with
    | none => exact .inr ⟨rfl, rfl, .inl ha⟩
    | some o =>
      left
      obtain ⟨ho, ho0⟩ := first_spec hf
      have hnh := not_held h ho ho0
      have hk := d3 ha
      have htk : ps.take (n / s.size) = ps := List.take_of_length_le (by omega)
      refine ⟨o, rfl, ?_⟩
      simp only [PSt.put, getD_last]
      have hl0 : ((s.setPage o ([], 1)).setRow id (some (ps ++ [o], n))).lst o = [] := by
        show (s.setPage o ([], 1)).lst o = _
        rw [setPage_lst_same ho]
      have hc0 : ((s.setPage o ([], 1)).setRow id (some (ps ++ [o], n))).cnt o = 1 := by
        show (s.setPage o ([], 1)).cnt o = _
        rw [setPage_cnt_same ho]
      rw [hl0, hc0]
      simp only [List.take_nil, List.nil_append]
      refine ⟨rfl, by simp [PSt.setRow, PSt.setPage], by simp [PSt.setRow, PSt.setPage, htk], ho, by rw [htk]; exact hnh _ _ _ hr, fun j qs m _ hj => hnh _ _ _ hj, ⟨[], ?_, by simp [ha], by intro j hj; omega⟩, ?_, ?_⟩
      · show (((s.setPage o ([], 1)).setRow id (some (ps ++ [o], n))).setPage o ([x], 1)).lst o = _
        rw [setPage_lst_same (by show o < (s.setPage o ([], 1)).pages.length; rw [setPage_len]; exact ho)]
        rfl
      · intro i hi
        show (((s.setPage o ([], 1)).setRow id (some (ps ++ [o], n))).setPage o ([x], 1)).lst i = _
        rw [setPage_lst_other (Ne.symm hi)]
        show (s.setPage o ([], 1)).lst i = _
        rw [setPage_lst_other (Ne.symm hi)]
      · intro i hi
        show (((s.setPage o ([], 1)).setRow id (some (ps ++ [o], n))).setPage o ([x], 1)).cnt i = _
        rw [htk]
        by_cases hio : i = o
        · subst hio
          rw [setPage_cnt_same (by show i < (s.setPage i ([], 1)).pages.length; rw [setPage_len]; exact ho), ho0, if_neg (hnh _ _ _ hr), if_pos (by simp)]
          rfl
        · rw [setPage_cnt_other (Ne.symm hio)]
          show (s.setPage o ([], 1)).cnt i = _
          rw [setPage_cnt_other (Ne.symm hio)]
          by_cases hm : i ∈ ps
          · rw [if_pos hm, if_pos (by simp [hm])]; omega
          · rw [if_neg hm, if_neg (by simp [hm, hio])]; omega
  · rw [if_neg ha]
    have hk := d4 ha
    have hk1 : ps.length - 1 = n / s.size := by rw [hk, Nat.add_sub_cancel]
    rw [hk1]
    obtain ⟨k, hK⟩ : ∃ k, k = n / s.size := ⟨_, rfl⟩
    rw [← hK] at hk ⊢
    have hkl : k < ps.length := by omega
    have hold := getD_at ps k hkl
    have hnd := h.nd _ _ _ hr
    have hmem : ps.getD k 0 ∈ ps := by rw [hold]; exact List.getElem_mem _
    have holt := h.lt _ _ _ hr _ hmem
    have hnt : ps.getD k 0 ∉ ps.take k := by
      intro hm
      have hn2 := hnd
      rw [take_last ps k hk, List.nodup_append] at hn2
      exact hn2.2.2 _ hm _ (by simp) rfl
    have hlast := Inv.last h hr ha
    obtain ⟨k', hk', -, hal⟩ := hlast
    have : k' = k := by omega
    subst this
    rw [hk', Nat.add_sub_cancel] at hal
    by_cases hc : 1 < s.cnt (ps.getD k' 0)
    · rw [if_pos hc]
      cases hf : s.first with
      | none => exact .inr ⟨rfl, rfl, .inr hc⟩
      | some o =>
        left
        obtain ⟨ho, ho0⟩ := first_spec hf
        have hnh := not_held h ho ho0
        have hoo : o ≠ ps.getD k' 0 := by rintro rfl; omega
        refine ⟨o, rfl, ?_⟩
        simp only [set_last ps k' o hk, PSt.put, getD_last]
        obtain ⟨old, hOld⟩ : ∃ old, old = ps.getD k' 0 := ⟨_, rfl⟩
        rw [← hOld] at hoo hal holt hmem hnt hc ⊢
        obtain ⟨l, hl⟩ : ∃ l, l = (s.lst old).take (n % s.size) := ⟨_, rfl⟩
        have hll : l.length = n % s.size := by rw [hl, List.length_take]; omega
        rw [← hl]
        obtain ⟨t, ht⟩ : ∃ t, t = (((s.setPage o (l, 1)).setPage old ((s.setPage o (l, 1)).lst old, (s.setPage o (l, 1)).cnt old - 1)).setRow id (some (ps.take k' ++ [o], n))) := ⟨_, rfl⟩
        have tl : t.pages.length = s.pages.length := by rw [ht]; show ((s.setPage o (l, 1)).setPage old _).pages.length = _; rw [setPage_len, setPage_len]
        have tls : ∀ i, t.lst i = if i = o then l else s.lst i := by
          intro i
          rw [ht]
          show ((s.setPage o (l, 1)).setPage old _).lst i = _
          by_cases hio : i = o
          · subst hio
            rw [setPage_lst_other (Ne.symm hoo), setPage_lst_same ho, if_pos rfl]
          · rw [if_neg hio]
            by_cases hi2 : i = old
            · subst hi2
              rw [setPage_lst_same (by rw [setPage_len]; exact holt)]
              simp only
              rw [setPage_lst_other (Ne.symm hio)]
            · rw [setPage_lst_other (Ne.symm hi2), setPage_lst_other (Ne.symm hio)]
        have tcn : ∀ i, t.cnt i = if i = o then 1 else if i = old then s.cnt i - 1 else s.cnt i := by
          intro i
          rw [ht]
          show ((s.setPage o (l, 1)).setPage old _).cnt i = _
          by_cases hio : i = o
          · subst hio
            rw [setPage_cnt_other (Ne.symm hoo), setPage_cnt_same ho, if_pos rfl]
          · rw [if_neg hio]
            by_cases hi2 : i = old
            · subst hi2
              rw [setPage_cnt_same (by rw [setPage_len]; exact holt), if_pos rfl]
              simp only
              rw [setPage_cnt_other (Ne.symm hio)]
            · rw [setPage_cnt_other (Ne.symm hi2), setPage_cnt_other (Ne.symm hio), if_neg hi2]
        have tsz : t.size = s.size := by rw [ht]; rfl
        have trw : t.rows = s.rows.set id (some (ps.take k' ++ [o], n)) := by rw [ht]; rfl
        rw [← ht]
        have hot : o < t.pages.length := by rw [tl]; exact ho
        refine ⟨tsz, by show (t.setPage o _).pages.length = _; rw [setPage_len, tl], by show t.rows.set id _ = _; rw [trw, ← hK]; simp, ho, by rw [← hK]; intro hm; exact hnh _ _ _ hr (List.mem_of_mem_take hm), fun j qs m _ hj => hnh _ _ _ hj, ⟨l, ?_, hll, ?_⟩, ?_, ?_⟩
        · show (t.setPage o _).lst o = _
          rw [setPage_lst_same hot]
          simp only
          rw [tls o, if_pos rfl, tsz, List.take_of_length_le (by omega)]
        · intro j hj
          rw [← hK, ← hOld, hl, List.getElem?_take, if_pos hj]
        · intro i hi
          show (t.setPage o _).lst i = _
          rw [setPage_lst_other (Ne.symm hi), tls, if_neg hi]
        · intro i hi
          show (t.setPage o _).cnt i = _
          rw [← hK]
          have hmi : (i ∈ ps) ↔ (i ∈ ps.take k' ∨ i = old) := by
            conv => lhs; rw [take_last ps k' hk]
            rw [List.mem_append, List.mem_singleton, hOld]
          by_cases hio : i = o
          · subst hio
            rw [setPage_cnt_same hot]
            simp only
            rw [tcn, if_pos rfl, ho0, if_neg (hnh _ _ _ hr), if_pos (by simp)]
            rfl
          · rw [setPage_cnt_other (Ne.symm hio), tcn, if_neg hio]
            by_cases hi2 : i = old
            · rw [if_pos hi2, if_pos (hmi.2 (.inr hi2)), if_neg]
              · omega
              · rw [List.mem_append, List.mem_singleton]
                rintro (h9 | h9)
                · rw [hi2] at h9; exact hnt h9
                · exact hio h9
            · rw [if_neg hi2]
              by_cases hm : i ∈ ps.take k'
              · rw [if_pos (hmi.2 (.inl hm)), if_pos (by simp [hm])]; omega
              · rw [if_neg (fun h9 => (hmi.1 h9).elim hm hi2), if_neg (by simp [hm, hio])]; omega
    · rw [if_neg hc]
      left
      refine ⟨ps.getD k' 0, rfl, ?_⟩
      simp only [PSt.put]
      have e1 : ps.getD (ps.length - 1) 0 = ps.getD k' 0 := by rw [hk', Nat.add_sub_cancel]
      rw [e1]
      obtain ⟨o, hO⟩ : ∃ o, o = ps.getD k' 0 := ⟨_, rfl⟩
      have htk := take_last ps k' hk
      rw [← hO] at hc hal holt hmem hnt htk ⊢
      refine ⟨rfl, by show (s.setPage o _).pages.length = _; rw [setPage_len], by show s.rows.set id _ = _; rw [← hK, ← htk], holt, by rw [← hK]; exact hnt, only_held h holt hr hmem (by omega), ⟨(s.lst o).take (n % s.size), ?_, by rw [List.length_take]; omega, ?_⟩, ?_, ?_⟩
      · show (s.setPage o _).lst o = _
        rw [setPage_lst_same holt]
      · intro j hj
        rw [← hK, ← hO, List.getElem?_take, if_pos hj]
      · intro i hi
        show (s.setPage o _).lst i = _
        rw [setPage_lst_other (Ne.symm hi)]
      · intro i hi
        show (s.setPage o _).cnt i = _
        rw [← hK, ← htk]
        by_cases hio : i = o
        · subst hio; rw [setPage_cnt_same holt]; simp only; omega
        · rw [setPage_cnt_other (Ne.symm hio)]; omega

theorem inv_append {s : PSt α} (h : Inv s) (id : Int) (x : α) : Inv (s.append id x).1 := by
  cases hf : s.find id with
  | none => unfold PSt.append; rw [hf]; exact h
  | some r =>
    obtain ⟨ps, n⟩ := r
    have hr : 0 ≤ id ∧ s.row id.toNat = some (ps, n) := by
      unfold PSt.find at hf
      split at hf
      · exact ⟨by assumption, hf⟩
      · cases hf
    obtain ⟨j, rfl⟩ : ∃ k : Nat, id = (k : Int) := ⟨id.toNat, by omega⟩
    rw [Int.toNat_natCast] at hr
    rcases append_upd h hr.2 x with ⟨o, _, u⟩ | ⟨e, _⟩
    · exact inv_upd h hr.2 u
    · rw [e]; exact h
theorem inv_closeI {s : PSt α} (h : Inv s) (id : Int) : Inv (s.close id).1 := by
  cases hf : s.find id with
  | none => unfold PSt.close; rw [hf]; exact h
  | some r =>
    obtain ⟨ps, n⟩ := r
    have hr : 0 ≤ id ∧ s.row id.toNat = some (ps, n) := by
      unfold PSt.find at hf
      split at hf
      · exact ⟨by assumption, hf⟩
      · cases hf
    unfold PSt.close
    rw [hf]
    exact inv_close h hr.2
theorem inv_openI {s : PSt α} (h : Inv s) : Inv (s.open_ [] 0).1 := by
  unfold PSt.open_
  by_cases hm : s.rows.length = 1024
  · rw [if_pos hm]; exact h
  · rw [if_neg hm]
    refine inv_open h [] 0 hm (by simp) ?_ (by simp) (by intro k hk; simp at hk)
    have := h.sz
    rw [Nat.div_eq_of_lt (by omega)]
    rfl
theorem inv_share {s : PSt α} (h : Inv s) (id n : Int) : Inv (s.share id n).1 := by
  unfold PSt.share
  cases hf : s.find id with
  | none => exact h
  | some r =>
    obtain ⟨ps, m⟩ := r
    simp only
    by_cases hn : n < 0 ∨ (m : Int) < n
    · rw [if_pos hn]; exact h
    · rw [if_neg hn]
      have hr : 0 ≤ id ∧ s.row id.toNat = some (ps, m) := by
        unfold PSt.find at hf
        split at hf
        · exact ⟨by assumption, hf⟩
        · cases hf
      obtain ⟨k, rfl⟩ : ∃ k : Nat, n = (k : Int) := ⟨n.toNat, by omega⟩
      rw [Int.toNat_natCast]
      unfold PSt.open_
      by_cases hm : s.rows.length = 1024
      · rw [if_pos hm]; exact h
      · rw [if_neg hm]
        have hkm : k ≤ m := by omega
        have hlen := h.len _ _ _ hr.2
        have hle : (k + s.size - 1) / s.size ≤ ps.length := by rw [hlen]; exact Nat.div_le_div_right (by omega)
        refine inv_open h _ _ hm (fun p hp => h.lt _ _ _ hr.2 p (List.mem_of_mem_take hp)) (by rw [List.length_take]; omega) ((h.nd _ _ _ hr.2).sublist (List.take_sublist _ _)) ?_
        intro j hj
        rw [List.getElem_take]
        rw [List.length_take] at hj
        have := h.full _ _ _ hr.2 j (by omega)
        have h3 : k - j * s.size ≤ m - j * s.size := by omega
        omega
end Go.Proofs.Ytackjeckafoojaa.Kv
