/- KvShares: what its loops make of the pool: plain. -/
import Derived.Test.YtackjeckafoojaaKvThings
namespace Go.Proofs.Ytackjeckafoojaa.Kv
/-- A pool of one row to which 0, 1, .. were appended, k of them, of which n were taken. -/
structure First (s : PSt Int) (n k : Nat) : Prop where
  inv : Inv s
  row : ∃ ps, s.row 0 = some (ps, n)
  rows : s.rows.length = 1
  all : s.all 0 0 = (List.range n).map fun i : Nat => (i : Int)
  le : n ≤ k
  stuck : n = k ∨ ∀ y, s.append 0 y = (s, 16)
theorem first_start (p z : Nat) (hp : 1 ≤ p ∧ p ≤ 256) (hz : 1 ≤ z ∧ z ≤ 64) : First ((emptyP Int p z).open_ [] 0).1 0 0 := by
  have h0 := inv_new (α := Int) p z hp hz
  have e : ((emptyP Int p z).open_ [] 0).1 = { emptyP Int p z with rows := [some ([], 0)] } := by simp [PSt.open_, emptyP, incAll]
  refine ⟨inv_openI h0, ⟨[], ?_⟩, ?_, ?_, Nat.le_refl _, .inl rfl⟩
  · rw [e]; rfl
  · rw [e]; rfl
  · rw [e]; rfl
theorem first_step {s : PSt Int} {n k : Nat} (h : First s n k) : ((s.append 0 (k : Int)).2 = 0 ∧ First (s.append 0 (k : Int)).1 (n + 1) (k + 1)) ∨ (s.append 0 (k : Int) = (s, 16) ∧ First s n (k + 1)) := by
  obtain ⟨ps, hr⟩ := h.row
  rcases app_all h.inv 0 hr (k : Int) with ⟨h0, hl, hrows, ha, -⟩ | ⟨he, hst⟩
  · left
    have hk : n = k := by
      rcases h.stuck with e | e
      · exact e
      · have := e (k : Int)
        rw [show ((0 : Nat) : Int) = 0 from rfl] at h0
        rw [this] at h0
        simp at h0
    obtain ⟨⟨ps', n'⟩, hr'⟩ := hrows 0 _ hr
    have hal : (s.append ((0 : Nat) : Int) (k : Int)).1.all 0 ((0 : Nat) : Int) = (List.range (n + 1)).map fun i : Nat => (i : Int) := by
      rw [ha, List.range_succ, List.map_append]
      rw [show s.all 0 ((0 : Nat) : Int) = _ from h.all, hk]
      rfl
    have hn' : n' = n + 1 := by
      have := all_length (0 : Int) hr'
      rw [hal] at this
      simpa using this.symm
    subst hn'
    exact ⟨h0, inv_append h.inv _ _, ⟨ps', hr'⟩, hl.trans h.rows, hal, by have := h.le; omega, .inl (by omega)⟩
  · right
    exact ⟨he, h.inv, h.row, h.rows, h.all, by have := h.le; omega, .inr hst⟩

/-- Two rows, and their things. -/
structure Two (s : PSt Int) (a b : List Int) : Prop where
  inv : Inv s
  r0 : ∃ r, s.row 0 = some r
  r1 : ∃ r, s.row 1 = some r
  a0 : s.all 0 0 = a
  a1 : s.all 0 1 = b
theorem two_share {s : PSt Int} {n k m : Nat} (h : First s n k) (hm : m ≤ n) : s.share 0 (m : Int) = ((s.share 0 (m : Int)).1, 1, 0) ∧ (s.share 0 (m : Int)).1.free = s.free ∧ Two (s.share 0 (m : Int)).1 ((List.range n).map fun i : Nat => (i : Int)) ((List.range m).map fun i : Nat => (i : Int)) := by
  obtain ⟨ps, hr⟩ := h.row
  have hI := inv_share h.inv 0 (m : Int)
  have e : s.share 0 (m : Int) = ({ incAll s (ps.take ((m + s.size - 1) / s.size)) with rows := s.rows ++ [some (ps.take ((m + s.size - 1) / s.size), m)] }, 1, 0) := by
    unfold PSt.share
    rw [show s.find 0 = some (ps, n) from find_of_row hr]
    simp only
    rw [if_neg (by omega)]
    unfold PSt.open_
    rw [if_neg (by rw [h.rows]; omega), h.rows]
    rfl
  obtain ⟨h1, h2⟩ := all_share h.inv (0 : Int) hr hm
  have hrow := row_append s { incAll s (ps.take ((m + s.size - 1) / s.size)) with rows := s.rows ++ [some (ps.take ((m + s.size - 1) / s.size), m)] } s.rows (some (ps.take ((m + s.size - 1) / s.size), m)) rfl rfl
  have hfr := free_share h.inv hr ((m + s.size - 1) / s.size) m
  rw [e] at hI ⊢
  refine ⟨rfl, hfr, hI, ⟨(ps, n), ?_⟩, ⟨(ps.take ((m + s.size - 1) / s.size), m), ?_⟩, ?_, ?_⟩
  · rw [hrow, if_neg (by rw [h.rows]; omega)]; exact hr
  · rw [hrow, if_pos h.rows.symm]
  · exact (h2 0 (by rw [h.rows]; omega)).trans h.all
  · rw [h.rows] at h1
    refine h1.trans ?_
    rw [show s.all 0 ((0 : Nat) : Int) = _ from h.all, ← List.map_take, List.take_range, Nat.min_eq_left hm]
theorem two_share_no {s : PSt Int} {n k m : Nat} (h : First s n k) (hm : n < m) : s.share 0 (m : Int) = (s, 0, 10) := by
  obtain ⟨ps, hr⟩ := h.row
  unfold PSt.share
  rw [show s.find 0 = some (ps, n) from find_of_row hr]
  simp only
  rw [if_pos (by omega)]
theorem two_app0 {s : PSt Int} {a b : List Int} (h : Two s a b) (x : Int) : ((s.append 0 x).2 = 0 ∧ Two (s.append 0 x).1 (a ++ [x]) b) ∨ s.append 0 x = (s, 16) := by
  obtain ⟨r, hr⟩ := h.r0
  rcases app_all h.inv 0 hr x with ⟨h0, -, hrows, ha, hb⟩ | ⟨he, -⟩
  · left
    obtain ⟨r', hr'⟩ := h.r1
    refine ⟨h0, inv_append h.inv _ _, hrows 0 _ hr, hrows 1 _ hr', ?_, ?_⟩
    · exact ha.trans (by rw [show s.all 0 ((0 : Nat) : Int) = _ from h.a0])
    · exact (hb 1 (by omega)).trans h.a1
  · exact .inr he
theorem two_app1 {s : PSt Int} {a b : List Int} (h : Two s a b) (x : Int) : ((s.append 1 x).2 = 0 ∧ Two (s.append 1 x).1 a (b ++ [x])) ∨ s.append 1 x = (s, 16) := by
  obtain ⟨r, hr⟩ := h.r1
  rcases app_all h.inv 0 hr x with ⟨h0, -, hrows, ha, hb⟩ | ⟨he, -⟩
  · left
    obtain ⟨r', hr'⟩ := h.r0
    refine ⟨h0, inv_append h.inv _ _, hrows 0 _ hr', hrows 1 _ hr, ?_, ?_⟩
    · exact (hb 0 (by omega)).trans h.a0
    · exact ha.trans (by rw [show s.all 0 ((1 : Nat) : Int) = _ from h.a1])
  · exact .inr he
end Go.Proofs.Ytackjeckafoojaa.Kv
