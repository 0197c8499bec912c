/- What a pool's calls make of its state: plain functions. -/
import Derived.Test.YtackjeckafoojaaKv
namespace Go.Proofs.Ytackjeckafoojaa.Kv
open Go Go.RowKit
variable {α : Type}

/-- An open row. -/
def PSt.find (s : PSt α) (id : Int) : Option (List Nat × Nat) := if 0 ≤ id then s.row id.toNat else none
def incAll : PSt α → List Nat → PSt α
  | s, [] => s
  | s, p :: ps => incAll (s.setPage p (s.lst p, s.cnt p + 1)) ps
def decAll : PSt α → List Nat → PSt α
  | s, [] => s
  | s, p :: ps => decAll (s.setPage p (s.lst p, s.cnt p - 1)) ps
def PSt.open_ (s : PSt α) (ps : List Nat) (n : Nat) : PSt α × Int × Int :=
  if s.rows.length = 1024 then (s, 0, 16) else ({ incAll s ps with rows := s.rows ++ [some (ps, n)] }, s.rows.length, 0)
def PSt.share (s : PSt α) (id n : Int) : PSt α × Int × Int :=
  match s.find id with
  | none => (s, 0, 14)
  | some (ps, m) => if n < 0 ∨ (m : Int) < n then (s, 0, 10) else s.open_ (ps.take ((n.toNat + s.size - 1) / s.size)) n.toNat
def PSt.close (s : PSt α) (id : Int) : PSt α × Int :=
  match s.find id with
  | none => (s, 14)
  | some (ps, _) => ((decAll s ps).setRow id.toNat none, 0)
/-- The first free page. -/
def PSt.first (s : PSt α) : Option Nat := (List.range s.pages.length).find? fun i => s.cnt i == 0
/-- The state behind: a page is put behind a row's last thing. -/
def PSt.put (s : PSt α) (id : Nat) (ps : List Nat) (n : Nat) (x : α) : PSt α :=
  let own := ps.getD (ps.length - 1) 0
  (s.setPage own ((s.lst own).take (n % s.size) ++ [x], s.cnt own)).setRow id (some (ps, n + 1))
def PSt.append (s : PSt α) (id : Int) (x : α) : PSt α × Int :=
  match s.find id with
  | none => (s, 14)
  | some (ps, n) =>
    if n % s.size = 0 then
      match s.first with
      | none => (s, 16)
      | some at_ => (((s.setPage at_ ([], 1)).setRow id.toNat (some (ps ++ [at_], n))).put id.toNat (ps ++ [at_]) n x, 0)
    else
      let old := ps.getD (ps.length - 1) 0
      if 1 < s.cnt old then
        match s.first with
        | none => (s, 16)
        | some at_ =>
          let s1 := s.setPage at_ ((s.lst old).take (n % s.size), 1)
          let s2 := s1.setPage old (s1.lst old, s1.cnt old - 1)
          ((s2.setRow id.toNat (some (ps.set (ps.length - 1) at_, n))).put id.toNat (ps.set (ps.length - 1) at_) n x, 0)
      else (s.put id.toNat ps n x, 0)
def PSt.get (s : PSt α) (zero : α) (id i : Int) : α × Int :=
  match s.find id with
  | none => (zero, 14)
  | some (ps, n) => if i < 0 ∨ (n : Int) ≤ i then (zero, 10) else (((s.lst (ps.getD (i.toNat / s.size) 0))[i.toNat % s.size]?).getD zero, 0)
/-- A row's things. -/
def PSt.all (s : PSt α) (zero : α) (id : Int) : List α :=
  match s.find id with
  | none => []
  | some (_, n) => (List.range n).map fun i : Nat => (s.get zero id (i : Int)).1
def PSt.free (s : PSt α) : Nat := ((List.range s.pages.length).filter fun i => s.cnt i == 0).length

/-- Does a row hold a page? -/
def holdsR (i : Nat) : Option (List Nat × Nat) → Bool
  | some (ps, _) => ps.contains i
  | none => false
/-- What is always so. -/
structure Inv (s : PSt α) : Prop where
  sz : 1 ≤ s.size ∧ s.size ≤ 64
  np : 1 ≤ s.pages.length ∧ s.pages.length ≤ 256
  many : s.rows.length ≤ 1024
  lt : ∀ id ps n, s.row id = some (ps, n) → ∀ p ∈ ps, p < s.pages.length
  len : ∀ id ps n, s.row id = some (ps, n) → ps.length = (n + s.size - 1) / s.size
  nd : ∀ id ps n, s.row id = some (ps, n) → ps.Nodup
  full : ∀ id ps n, s.row id = some (ps, n) → ∀ k (h : k < ps.length), min s.size (n - k * s.size) ≤ (s.lst ps[k]).length
  lim : ∀ i, (s.lst i).length ≤ s.size
  cnt : ∀ i, i < s.pages.length → s.cnt i = (s.rows.countP (holdsR i) : Nat)

theorem Inv.cnt_bound {s : PSt α} (h : Inv s) (i : Nat) : 0 ≤ s.cnt i ∧ s.cnt i ≤ 1024 := by
  by_cases hi : i < s.pages.length
  · rw [h.cnt i hi]
    refine ⟨by omega, ?_⟩
    have h1 := List.countP_le_length (p := holdsR i) (l := s.rows)
    have := h.many
    omega
  · unfold PSt.cnt
    rw [List.getElem?_eq_none (by omega)]
    simp
theorem nodup_le {l : List Nat} {m : Nat} (h : l.Nodup) (hl : ∀ p ∈ l, p < m) : l.length ≤ m := by
  have := List.Nodup.length_le_of_subset (l₂ := List.range m) h (fun p hp => List.mem_range.2 (hl p hp))
  simpa using this
theorem Inv.ps_len {s : PSt α} (h : Inv s) {id : Nat} {ps : List Nat} {n : Nat} (hr : s.row id = some (ps, n)) : ps.length ≤ 256 := by
  have := nodup_le (h.nd id ps n hr) (h.lt id ps n hr)
  have := h.np
  omega
theorem Inv.n_bound {s : PSt α} (h : Inv s) {id : Nat} {ps : List Nat} {n : Nat} (hr : s.row id = some (ps, n)) : n ≤ ps.length * s.size ∧ (0 < ps.length → (ps.length - 1) * s.size < n) ∧ n ≤ 16384 := by
  have h1 := h.len id ps n hr
  have h2 := h.ps_len hr
  obtain ⟨h3, h4⟩ := h.sz
  have e := Nat.div_add_mod (n + s.size - 1) s.size
  have er := Nat.mod_lt (n + s.size - 1) (show 0 < s.size by omega)
  rw [← h1] at e
  have em : s.size * ps.length = ps.length * s.size := Nat.mul_comm _ _
  have e3 : ps.length * s.size ≤ 256 * 64 := Nat.mul_le_mul h2 h4
  have e4 : (ps.length - 1) * s.size = ps.length * s.size - s.size := by rw [Nat.sub_mul, Nat.one_mul]
  have e5 : 0 < ps.length → s.size ≤ ps.length * s.size := fun hp => Nat.le_mul_of_pos_left _ hp
  rw [em] at e
  refine ⟨by omega, fun hp => ?_, by omega⟩
  have := e5 hp
  rw [e4]
  omega

theorem incAll_len (s : PSt α) (ps : List Nat) : (incAll s ps).pages.length = s.pages.length ∧ (incAll s ps).size = s.size ∧ (incAll s ps).rows = s.rows := by
  induction ps generalizing s with
  | nil => exact ⟨rfl, rfl, rfl⟩
  | cons p ps ih =>
    obtain ⟨h1, h2, h3⟩ := ih (s.setPage p (s.lst p, s.cnt p + 1))
    exact ⟨by rw [incAll, h1, setPage_len], by rw [incAll, h2]; rfl, by rw [incAll, h3]; rfl⟩
theorem incAll_snoc (s : PSt α) (ps : List Nat) (p : Nat) : incAll s (ps ++ [p]) = (incAll s ps).setPage p ((incAll s ps).lst p, (incAll s ps).cnt p + 1) := by
  induction ps generalizing s with
  | nil => rfl
  | cons q ps ih => simp only [List.cons_append, incAll, ih]
theorem decAll_len (s : PSt α) (ps : List Nat) : (decAll s ps).pages.length = s.pages.length ∧ (decAll s ps).size = s.size ∧ (decAll s ps).rows = s.rows := by
  induction ps generalizing s with
  | nil => exact ⟨rfl, rfl, rfl⟩
  | cons p ps ih =>
    obtain ⟨h1, h2, h3⟩ := ih (s.setPage p (s.lst p, s.cnt p - 1))
    exact ⟨by rw [decAll, h1, setPage_len], by rw [decAll, h2]; rfl, by rw [decAll, h3]; rfl⟩
theorem decAll_snoc (s : PSt α) (ps : List Nat) (p : Nat) : decAll s (ps ++ [p]) = (decAll s ps).setPage p ((decAll s ps).lst p, (decAll s ps).cnt p - 1) := by
  induction ps generalizing s with
  | nil => rfl
  | cons q ps ih => simp only [List.cons_append, decAll, ih]
theorem cnt_setPage_bound {s : PSt α} {p : Nat} {c : Int} {lo hi : Int} (h : ∀ i, lo ≤ s.cnt i ∧ s.cnt i ≤ hi) (hc : lo ≤ c ∧ c ≤ hi) (l : List α) : ∀ i, lo ≤ (s.setPage p (l, c)).cnt i ∧ (s.setPage p (l, c)).cnt i ≤ hi := by
  intro i
  by_cases hp : p = i
  · subst hp
    by_cases hlt : p < s.pages.length
    · rw [setPage_cnt_same hlt]; exact hc
    · have : (s.setPage p (l, c)).cnt p = s.cnt p := by
        unfold PSt.cnt PSt.setPage
        rw [List.set_eq_of_length_le (by omega)]
      rw [this]; exact h p
  · rw [setPage_cnt_other hp]; exact h i
theorem incAll_cnt {s : PSt α} (ps : List Nat) {lo hi : Int} (h : ∀ i, lo ≤ s.cnt i ∧ s.cnt i ≤ hi) : ∀ i, lo ≤ (incAll s ps).cnt i ∧ (incAll s ps).cnt i ≤ hi + ps.length := by
  induction ps generalizing s hi with
  | nil => intro i; have := h i; simp [incAll]; exact this
  | cons p ps ih =>
    intro i
    have h1 : ∀ i, lo ≤ (s.setPage p (s.lst p, s.cnt p + 1)).cnt i ∧ (s.setPage p (s.lst p, s.cnt p + 1)).cnt i ≤ hi + 1 :=
      cnt_setPage_bound (fun i => ⟨(h i).1, by have := (h i).2; omega⟩) (by have := h p; omega) _
    have := ih h1 i
    simp only [incAll, List.length_cons]
    push_cast
    omega
theorem decAll_cnt {s : PSt α} (ps : List Nat) {lo hi : Int} (h : ∀ i, lo ≤ s.cnt i ∧ s.cnt i ≤ hi) : ∀ i, lo - ps.length ≤ (decAll s ps).cnt i ∧ (decAll s ps).cnt i ≤ hi := by
  induction ps generalizing s lo with
  | nil => intro i; have := h i; simp [decAll]; exact this
  | cons p ps ih =>
    intro i
    have h1 : ∀ i, lo - 1 ≤ (s.setPage p (s.lst p, s.cnt p - 1)).cnt i ∧ (s.setPage p (s.lst p, s.cnt p - 1)).cnt i ≤ hi :=
      cnt_setPage_bound (fun i => ⟨by have := (h i).1; omega, (h i).2⟩) (by have := h p; omega) _
    have := ih h1 i
    simp only [decAll, List.length_cons]
    push_cast
    omega

theorem findF_rows (l : List Nat) (gb : Nat → Nat) (id : Int) (i : Nat) :
    (IMap.findF (l.map fun j : Nat => ((j : Int), (.pointer (some ⟨gb j, 0, none⟩) : Value))) id i).map (·.2) = if 0 ≤ id ∧ id.toNat ∈ l then some (.pointer (some ⟨gb id.toNat, 0, none⟩)) else none := by
  induction l generalizing i with
  | nil => simp [IMap.findF]
  | cons j l ih =>
    simp only [List.map_cons, IMap.findF]
    by_cases h : id = (j : Int)
    · subst h
      simp
    · rw [if_neg h, ih]
      have : (id.toNat ∈ j :: l ∧ 0 ≤ id) ↔ (id.toNat ∈ l ∧ 0 ≤ id) := by
        simp only [List.mem_cons]
        constructor
        · rintro ⟨h1 | h1, h2⟩
          · exfalso; omega
          · exact ⟨h1, h2⟩
        · rintro ⟨h1, h2⟩; exact ⟨.inr h1, h2⟩
      by_cases h2 : 0 ≤ id ∧ id.toNat ∈ l
      · rw [if_pos h2, if_pos ⟨h2.1, List.mem_cons_of_mem _ h2.2⟩]
      · rw [if_neg h2, if_neg (fun h3 => h2 ⟨h3.1, (this.1 ⟨h3.2, h3.1⟩).1⟩)]

theorem first_some {s : PSt α} {k : Nat} (hk : k < s.pages.length) (h : ∀ j, j < k → s.cnt j ≠ 0) (h0 : s.cnt k = 0) : s.first = some k := by
  unfold PSt.first
  rw [List.find?_range_eq_some]
  exact ⟨by simpa using h0, List.mem_range.2 hk, fun j hj => by simpa using h j hj⟩
theorem first_none {s : PSt α} (h : ∀ j, j < s.pages.length → s.cnt j ≠ 0) : s.first = none := by
  unfold PSt.first
  rw [List.find?_eq_none]
  intro j hj
  simpa using h j (List.mem_range.1 hj)
theorem first_spec {s : PSt α} {k : Nat} (h : s.first = some k) : k < s.pages.length ∧ s.cnt k = 0 := by
  unfold PSt.first at h
  have h1 := List.mem_of_find?_eq_some h
  have h2 := List.find?_some h
  exact ⟨List.mem_range.1 h1, by simpa using h2⟩
theorem own_form {w : World} {base : Nat} {e : TypeId} {size : Nat} {v : Value} {n : Nat} {xs : List Value} (h : w.ownsRow base e size v n xs) : ∃ A c, v = .slice A n c := by
  rcases h.2 with ⟨rfl, rfl⟩ | ⟨g, cap, cur, rfl, _⟩
  · exact ⟨none, 0, rfl⟩
  · exact ⟨_, _, rfl⟩
def firstI (s : PSt α) : Int := match s.first with | some i => (i : Int) | none => -1
/-- A new pool. -/
def emptyP (α : Type) (p z : Nat) : PSt α := ⟨List.replicate p ([], 0), z, []⟩
def freshR (n : Nat) : Nat → Option Role := fun b => if b = n then some .pages else if b = n + 1 then some .map else if b = n + 2 then some .pool else none
def freshL (n : Nat) : Lay := ⟨n + 2, n, n + 1, fun _ => .slice none 0 0, fun _ => 0, fun _ => .slice none 0 0⟩
theorem emptyP_lst (p z i : Nat) : (emptyP α p z).lst i = [] := by
  unfold emptyP PSt.lst
  simp only [List.getElem?_replicate]
  split <;> rfl
theorem emptyP_cnt (p z i : Nat) : (emptyP α p z).cnt i = 0 := by
  unfold emptyP PSt.cnt
  simp only [List.getElem?_replicate]
  split <;> rfl
def freshW (K : KT) (W : World) (p z : Nat) : World := ((W.alloc (.cells (madeCells #[.slice none 0 0, .int .i64 0] (p * 2)) K.page)).alloc (.map #[] 0)).alloc (.cells #[.slice (some ⟨W.heap.size, 0, none⟩) p p, .int .i64 z, .map (some (W.heap.size + 1)), .int .i64 0] K.pool)
theorem freshW_below (K : KT) (W : World) (p z : Nat) : Below W.heap.size W (freshW K W p z) := by
  have h1 := (Below.refl W.heap.size W).alloc (Nat.le_refl _) (.cells (madeCells #[.slice none 0 0, .int .i64 0] (p * 2)) K.page)
  have h2 := h1.alloc h1.size (.map #[] 0)
  exact h2.alloc h2.size _
theorem freshW_at (K : KT) (W : World) (p z : Nat) :
    (freshW K W p z).heap[W.heap.size]? = some (.cells (madeCells #[.slice none 0 0, .int .i64 0] (p * 2)) K.page) ∧ (freshW K W p z).heap[W.heap.size + 1]? = some (.map #[] 0) ∧
    (freshW K W p z).heap[W.heap.size + 2]? = some (.cells #[.slice (some ⟨W.heap.size, 0, none⟩) p p, .int .i64 z, .map (some (W.heap.size + 1)), .int .i64 0] K.pool) := by
  unfold freshW
  have e1 : (W.alloc (.cells (madeCells #[.slice none 0 0, .int .i64 0] (p * 2)) K.page)).heap.size = W.heap.size + 1 := by show (W.heap.push _).size = _; simp
  have e2 : ((W.alloc (.cells (madeCells #[.slice none 0 0, .int .i64 0] (p * 2)) K.page)).alloc (.map #[] 0)).heap.size = W.heap.size + 2 := by show ((W.heap.push _).push _).size = _; simp
  refine ⟨?_, ?_, ?_⟩
  · rw [Below.heap_alloc _ _ _ (by omega), Below.heap_alloc _ _ _ (by omega)]
    exact heap_alloc_new _ _
  · rw [Below.heap_alloc _ _ _ (by omega)]
    rw [← e1]
    exact heap_alloc_new _ _
  · rw [← e2]
    exact heap_alloc_new _ _
theorem madeCells_two (u v : Value) (p i : Nat) (hi : i < p) : (madeCells #[u, v] (p * 2))[i * 2]? = some u ∧ (madeCells #[u, v] (p * 2))[i * 2 + 1]? = some v := by
  have h1 : i * 2 < p * 2 := by omega
  have h2 : i * 2 + 1 < p * 2 := by omega
  have m1 : i * 2 % 2 = 0 := by omega
  have m2 : (i * 2 + 1) % 2 = 1 := by omega
  constructor
  · unfold madeCells
    rw [Array.getElem?_map, Array.getElem?_range, if_pos h1]
    simp
  · unfold madeCells
    rw [Array.getElem?_map, Array.getElem?_range, if_pos h2]
    simp [m2]
theorem PoolAt.fresh (K : KT) (enc : α → Value) (W : World) (p z : Nat) : PoolAt K enc (freshW K W p z) (freshR W.heap.size) (freshL W.heap.size) (emptyP α p z) := by
  obtain ⟨h1, h2, h3⟩ := freshW_at K W p z
  have hlen : (emptyP α p z).pages.length = p := by simp [emptyP]
  refine ⟨?_, ⟨_, h1, ?_, ?_⟩, ⟨#[], 0, h2, rfl⟩, ?_, ?_, ?_, ?_, ?_, ?_, ?_, ?_⟩
  · rw [hlen]; exact h3
  · rw [size_madeCells, hlen]
  · intro i hi
    rw [hlen] at hi
    obtain ⟨m1, m2⟩ := madeCells_two (.slice none 0 0) (.int .i64 0) p i hi
    exact ⟨m1, by rw [m2, emptyP_cnt]⟩
  · intro i hi
    rw [emptyP_lst]
    exact World.ownsRow_nil _ _ _ _
  · intro id ps n hr
    simp [emptyP, PSt.row] at hr
  · simp [freshR, freshL]
  · simp [freshR, freshL]
  · simp [freshR, freshL]
  · intro i hi b hb
    simp [freshL, Value.ownBlock] at hb
  · intro id r hr
    simp [emptyP, PSt.row] at hr
  · intro id r hr
    simp [emptyP, PSt.row] at hr

section
variable {K : KT} {enc : α → Value} {W W' : World} {ρ : Nat → Option Role} {L : Lay} {s : PSt α}
/-- The roles, but none of blocks that are not yet. -/
def clip (W : World) (ρ : Nat → Option Role) : Nat → Option Role := fun b => if b < W.heap.size then ρ b else none
theorem clip_lt {b : Nat} (h : b < W.heap.size) : clip W ρ b = ρ b := if_pos h
theorem clip_ge {b : Nat} (h : W.heap.size ≤ b) : clip W ρ b = none := if_neg (by omega)
theorem PoolAt.clip (h : PoolAt K enc W ρ L s) : PoolAt K enc W (clip W ρ) L s := by
  refine ⟨h.pool, h.pages, h.map, h.page, h.row, (clip_lt (lt_of_some h.pool)).trans h.rg, ?_, (clip_lt (at_lt h.map)).trans h.rmb, ?_, ?_, ?_⟩
  · obtain ⟨cs, h1, _⟩ := h.pages
    exact (clip_lt (lt_of_some h1)).trans h.rpb
  · intro i hi b hb
    exact (clip_lt (own_lt' (h.page i hi) hb)).trans (h.rpage i hi b hb)
  · intro id r hr
    obtain ⟨ps, n⟩ := r
    exact (clip_lt (lt_of_some (h.row id ps n hr).1)).trans (h.rrow id _ hr)
  · intro id r hr b hb
    obtain ⟨ps, n⟩ := r
    exact (clip_lt (own_lt' (h.row id ps n hr).2 hb)).trans (h.rrowp id _ hr b hb)
/-- What a call leaves of a pool. -/
def Step (K : KT) (enc : α → Value) (W : World) (ρ : Nat → Option Role) (L : Lay) (s' : PSt α) (W' : World) : Prop := ∃ ρ' L', PoolAt K enc W' ρ' L' s' ∧ L'.g = L.g ∧ Fr W ρ W' ρ'
theorem Step.same (h : PoolAt K enc W ρ L s) : Step K enc W ρ L s W := ⟨ρ, L, h, rfl, Fr.refl _ _⟩
theorem Step.below (h : PoolAt K enc W ρ L s) (hb : Below W.heap.size W W') : Step K enc W ρ L s W' := ⟨ρ, L, h.below hb, rfl, Fr.of_below hb⟩
end
theorem findF_erase (l : List Nat) (hl : l.Nodup) (gb : Nat → Nat) (id : Nat) (i j : Nat) (v : Value) (h : IMap.findF (l.map fun j : Nat => ((j : Int), (.pointer (some ⟨gb j, 0, none⟩) : Value))) (id : Int) i = some (j, v)) :
    (l.map fun j : Nat => ((j : Int), (.pointer (some ⟨gb j, 0, none⟩) : Value))).eraseIdx (j - i) = (l.filter (· ≠ id)).map fun j : Nat => ((j : Int), (.pointer (some ⟨gb j, 0, none⟩) : Value)) := by
  induction l generalizing i with
  | nil => simp [IMap.findF] at h
  | cons a l ih =>
    simp only [List.map_cons, IMap.findF] at h
    obtain ⟨ha, hn⟩ := List.nodup_cons.1 hl
    by_cases hia : (id : Int) = (a : Int)
    · rw [if_pos hia] at h
      simp at h
      obtain ⟨rfl, -⟩ := h
      have e : id = a := by omega
      subst e
      have e2 : l.filter (· ≠ id) = l := List.filter_eq_self.2 fun x hx => by simp; rintro rfl; exact ha hx
      simp only [Nat.sub_self, List.map_cons, List.eraseIdx_zero, List.tail_cons]
      rw [List.filter_cons_of_neg (by simp), e2]
    · rw [if_neg hia] at h
      have h1 := (IMap.findF_some h).1
      have e : j - i = (j - (i + 1)) + 1 := by omega
      rw [e, List.map_cons, List.eraseIdx_cons_succ, ih hn _ h, List.filter_cons_of_pos (by simp; omega), List.map_cons]
theorem openIds_nodup (rows : List (Option (List Nat × Nat))) : (openIds rows).Nodup := List.Pairwise.filter _ List.nodup_range
theorem own_take {W : World} {base : Nat} {e : TypeId} {g n cap : Nat} {xs : List Value} (h : W.ownsRow base e 1 (.slice (some ⟨g, 0, none⟩) n cap) n xs) (k : Nat) (hk : k ≤ n) : W.ownsRow base e 1 (.slice (some ⟨g, 0, none⟩) k cap) k (xs.take k) := by
  have hl := h.1
  refine ⟨by rw [List.length_take]; omega, .inr ?_⟩
  rcases h.2 with ⟨e, _⟩ | ⟨g', cap', cur, e, h1, h2, h3, h4, h5, h6⟩
  · cases e
  · injection e with e1 e2 e3
    injection e1 with e1
    injection e1 with e1
    subst e1 e3
    refine ⟨g, cap, cur, rfl, h1, h2, by omega, h4, h5, ?_⟩
    rw [← h6, List.take_take]
    congr 1
    omega

section
variable {K : KT} {enc : α → Value} {W W' w w' : World} {ρ ρt : Nat → Option Role} {L Lt : Lay} {s s' : PSt α}
theorem Step.trans (h1 : Fr W ρ w ρt) (hg : Lt.g = L.g) (h2 : Step K enc w ρt Lt s' w') : Step K enc W ρ L s' w' := by
  obtain ⟨ρ', L', a, b, c⟩ := h2
  exact ⟨ρ', L', a, b.trans hg, h1.trans c⟩

/-- A thing is put behind a page's first ones, and the row has one more. -/
theorem PoolAt.tail (h : PoolAt K enc w ρ L s) {id : Nat} {qs : List Nat} {n : Nat} (hr : s.row id = some (qs, n)) {o : Nat} (ho : o < s.pages.length) (hq : qs.getD (qs.length - 1) 0 = o) (v0 : Value) (hv0 : ∀ g, v0.ownBlock = some g → (L.lv o).ownBlock = some g) {w0 w1 : World} (hb : Below w.heap.size w w0) (hg : w0.grownBy w1 v0.ownBlock)
    (v' : Value) (hv' : v'.ownBlock = v0.ownBlock ∨ v'.ownBlock = some w0.heap.size) (x : α) (l : List α) (hown : w1.ownsRow 0 K.elem 1 v' l.length (l.map enc)) (hl : l = (s.lst o).take (n % s.size) ++ [x]) :
    Step K enc w ρ L (s.put id qs n x) ((w1.setCell ⟨L.pb, o * 2, none⟩ v').setCell ⟨L.rb id, 1, none⟩ (.int .i64 ((n + 1 : Nat) : Int))) := by
  have k : KeepR ρ (some (.page o)) w w1 := by
    intro b r hbr hne hlt
    refine (hg.block b (Nat.lt_of_lt_of_le hlt hb.size) ?_).trans (hb.block b hlt)
    intro e
    have := h.rpage o ho b (hv0 b e.symm)
    rw [hbr] at this
    exact hne this
  have hvv : ∀ g, v'.ownBlock = some g → (L.lv o).ownBlock = some g ∨ w.heap.size ≤ g := by
    intro g hg'
    rcases hv' with e | e
    · exact .inl (hv0 g (e ▸ hg'))
    · rw [e] at hg'
      injection hg' with hg'
      subst hg'
      exact .inr hb.size
  have h1 := h.newPage ho v' l k hown hvv (Nat.le_trans hb.size hg.size)
  have hr1 : (s.setPage o (l, s.cnt o)).row id = some (qs, n) := hr
  have h2 := h1.setRown hr1 (n + 1)
  have f0 : Fr w ρ w1 (upR ρ v' (.page o)) := by
    refine ⟨hg.os.trans hb.os, hg.tape.trans hb.tape, hg.output.trans hb.output, Nat.le_trans hb.size hg.size, fun c hc hcr => ⟨?_, ?_⟩⟩
    · refine (hg.block c (Nat.lt_of_lt_of_le hc hb.size) ?_).trans (hb.block c hc)
      intro e
      have := h.rpage o ho c (hv0 c e.symm)
      rw [hcr] at this; simp at this
    · rw [upR_other]
      · exact hcr
      · intro g hg' e
        subst e
        rcases hvv _ hg' with h3 | h3
        · have := h.rpage o ho _ h3
          rw [hcr] at this; simp at this
        · omega
  have f1 := f0.trans (Fr.setCell (W := w1) (ρ := upR ρ v' (.page o)) (o * 2) v' (by have := h1.rpb; simp only at this; rw [this]; simp))
  have f2 := f1.trans (Fr.setCell (W := w1.setCell ⟨L.pb, o * 2, none⟩ v') (ρ := upR ρ v' (.page o)) (b := L.rb id) 1 (.int .i64 ((n + 1 : Nat) : Int)) (by have := h1.rrow id _ hr1; simp only at this; rw [this]; simp))
  refine ⟨_, { L with lv := fun j => if j = o then v' else L.lv j }, ?_, rfl, f2⟩
  unfold PSt.put
  simp only
  rw [hq, ← hl]
  exact h2
/-- What the walk reads of a row's last page. -/
theorem PoolAt.tail_cells (h : PoolAt K enc w ρ L s) {id : Nat} {qs : List Nat} {n k : Nat} (hr : s.row id = some (qs, n)) (hk : qs.length = k + 1) {o : Nat} (ho : o < s.pages.length) (hq : qs.getD (qs.length - 1) 0 = o) :
    ∃ g1 cap1, L.pv id = .slice (some ⟨g1, 0, none⟩) (k + 1) cap1 ∧ w.cell? ⟨L.rb id, 0, none⟩ = some (.slice (some ⟨g1, 0, none⟩) (k + 1) cap1) ∧ w.cell? ⟨L.rb id, 1, none⟩ = some (.int .i64 (n : Int)) ∧ w.cell? ⟨g1, k, none⟩ = some (.int .i64 (o : Int)) ∧
      w.frozen? ⟨L.rb id, 1, none⟩ = false ∧ w.frozen? ⟨g1, k, none⟩ = false ∧ w.cell? ⟨L.pb, o * 2, none⟩ = some (L.lv o) ∧ w.cell? ⟨L.pb, o * 2 + 1, none⟩ = some (.int .i64 (s.cnt o)) ∧ w.frozen? ⟨L.pb, o * 2, none⟩ = false ∧ w.frozen? ⟨L.pb, o * 2 + 1, none⟩ = false ∧ L.pb ≠ L.rb id ∧ L.pb ≠ g1 ∧ L.rb id ≠ g1 := by
  obtain ⟨r0, r1⟩ := h.rowCell hr
  obtain ⟨p0, p1⟩ := h.pageCell o ho
  have hrow := (h.row _ _ _ hr).2
  obtain ⟨g1, cap1, e, hlt, hc⟩ := own_read hrow (by omega)
  have hx : (ints qs)[k]? = some (.int .i64 (o : Int)) := by
    rw [hk] at hq
    simp only [Nat.add_sub_cancel] at hq
    rw [List.getD_eq_getElem?_getD, List.getElem?_eq_getElem (show k < qs.length by omega), Option.getD_some] at hq
    simp [ints, List.getElem?_eq_getElem (show k < qs.length by omega), hq]
  have hrg := h.rrowp _ _ hr g1 (by rw [e]; rfl)
  rw [hk] at e
  refine ⟨g1, cap1, e, by rw [← e]; exact r0, r1, hc _ _ hx, h.rowFrozen hr _, ?_, p0, p1, h.pageFrozen _, h.pageFrozen _, role_ne h.rpb (h.rrow _ _ hr) (by simp), role_ne h.rpb hrg (by simp), role_ne (h.rrow _ _ hr) hrg (by simp)⟩
  rcases hrow.2 with ⟨e2, _⟩ | ⟨g', cap', cur, e2, _, hh, _⟩
  · rw [e] at e2; cases e2
  · rw [e] at e2
    injection e2 with e3
    injection e3 with e3
    injection e3 with e3
    subst e3
    exact frozen_of_row w g1 k _ _ hh
end
section
variable {K : KT} {enc : α → Value} {w : World} {ρ : Nat → Option Role} {L : Lay} {s : PSt α}
/-- A row's pages grew. -/
theorem PoolAt.grewRow (h : PoolAt K enc w ρ L s) {id : Nat} {ps : List Nat} {n : Nat} (hr : s.row id = some (ps, n)) {w0 w1 : World} (hb : Below w.heap.size w w0) (hg : w0.grownBy w1 (L.pv id).ownBlock) (v' : Value) (hv' : v'.ownBlock = (L.pv id).ownBlock ∨ v'.ownBlock = some w0.heap.size) (l : List Nat) (hown : w1.ownsRow 0 K.int 1 v' l.length (ints l)) :
    ∃ ρ' L', PoolAt K enc (w1.setCell ⟨L.rb id, 0, none⟩ v') ρ' L' (s.setRow id (some (l, n))) ∧ L'.g = L.g ∧ L'.pb = L.pb ∧ L'.rb = L.rb ∧ L'.lv = L.lv ∧ L'.pv id = v' ∧ Fr w ρ (w1.setCell ⟨L.rb id, 0, none⟩ v') ρ' := by
  have k : KeepR ρ (some (.rowp id)) w w1 := by
    intro b r hbr hne hlt
    refine (hg.block b (Nat.lt_of_lt_of_le hlt hb.size) ?_).trans (hb.block b hlt)
    intro e
    have := h.rrowp id _ hr b e.symm
    rw [hbr] at this
    exact hne this
  have hvv : ∀ g, v'.ownBlock = some g → (L.pv id).ownBlock = some g ∨ w.heap.size ≤ g := by
    intro g hg'
    rcases hv' with e | e
    · exact .inl (e ▸ hg')
    · rw [e] at hg'
      injection hg' with hg'
      subst hg'
      exact .inr hb.size
  have h1 := h.newRowp hr v' l k hown hvv
  refine ⟨_, _, h1, rfl, rfl, rfl, rfl, by simp, ?_⟩
  have f0 : Fr w ρ w1 (upR ρ v' (.rowp id)) := by
    refine ⟨hg.os.trans hb.os, hg.tape.trans hb.tape, hg.output.trans hb.output, Nat.le_trans hb.size hg.size, fun c hc hcr => ⟨?_, ?_⟩⟩
    · refine (hg.block c (Nat.lt_of_lt_of_le hc hb.size) ?_).trans (hb.block c hc)
      intro e
      have := h.rrowp id _ hr c e.symm
      rw [hcr] at this; simp at this
    · rw [upR_other]
      · exact hcr
      · intro g hg' e
        subst e
        rcases hvv _ hg' with h3 | h3
        · have := h.rrowp id _ hr _ h3
          rw [hcr] at this; simp at this
        · omega
  refine f0.trans (Fr.setCell 0 v' ?_)
  rw [upR_other]
  · rw [h.rrow id _ hr]; simp
  · intro g hg' e
    rcases hvv _ hg' with h3 | h3
    · have := h.rrowp id _ hr _ h3
      rw [← e, h.rrow id _ hr] at this; simp at this
    · have := lt_of_some (h.row _ _ _ hr).1; omega
end
theorem grown_keep {W w0 w1 : World} {o : Obj} {v : Value} (hw : w0.heap = W.heap) (hg : (w0.alloc o).grownBy w1 v.ownBlock) {b : Nat} (hb : b < W.heap.size) (hne : v.ownBlock ≠ some b) : w1.heap[b]? = W.heap[b]? := by
  have h0 : b < w0.heap.size := by rw [hw]; exact hb
  refine (hg.block b ?_ (fun e => hne e.symm)).trans ((Below.heap_alloc _ _ _ h0).trans (by rw [hw]))
  show b < (w0.heap.push o).size
  simp
  omega
theorem own_lit {W w0 : World} (hw : w0.heap = W.heap) (o : Obj) {base : Nat} {e : TypeId} {v : Value} {n : Nat} {xs : List Value} (h : W.ownsRow base e 1 v n xs) : (w0.alloc o).ownsRow base e 1 v n xs :=
  own_same h fun b hb => (Below.heap_alloc _ _ _ (by rw [hw]; exact own_lt' h hb)).trans (by rw [hw])
theorem below_lit {W w0 : World} (hw : w0.heap = W.heap) (h1 : w0.os = W.os) (h2 : w0.tape = W.tape) (h3 : w0.output = W.output) (o : Obj) : Below W.heap.size W (w0.alloc o) := by
  have h := (Below.refl w0.heap.size w0).alloc (Nat.le_refl _) o
  rw [hw] at h
  exact ⟨h.os.trans h1, h.tape.trans h2, h.output.trans h3, by rw [← hw]; exact h.size, fun k hk => (h.block k hk).trans (by rw [hw])⟩
/-- A row's last page, where it is not full. -/
theorem Inv.last {s : PSt α} (h : Inv s) {id : Nat} {ps : List Nat} {n : Nat} (hr : s.row id = some (ps, n)) (ha : n % s.size ≠ 0) :
    ∃ k, ps.length = k + 1 ∧ ps.getD (ps.length - 1) 0 < s.pages.length ∧ n % s.size ≤ (s.lst (ps.getD (ps.length - 1) 0)).length := by
  have hsz := h.sz
  have hl := h.len _ _ _ hr
  have hn0 : n ≠ 0 := by rintro rfl; simp at ha
  have e1 := Nat.div_add_mod (n + s.size - 1) s.size
  have e2 := Nat.mod_lt (n + s.size - 1) (show 0 < s.size by omega)
  have f1 := Nat.div_add_mod n s.size
  have f2 := Nat.mod_lt n (show 0 < s.size by omega)
  rw [← hl] at e1
  obtain ⟨a, hA⟩ : ∃ a, a = n % s.size := ⟨_, rfl⟩
  obtain ⟨d, hD⟩ : ∃ d, d = n / s.size := ⟨_, rfl⟩
  rw [← hA, ← hD] at f1
  rw [← hA] at f2 ha
  have hpl : ps.length = d + 1 := by
    rw [hl, ← f1]
    rw [show s.size * d + a + s.size - 1 = (a - 1) + s.size * (d + 1) by rw [Nat.mul_add]; omega, Nat.add_mul_div_left _ _ (by omega), Nat.div_eq_of_lt (by omega)]
    omega
  have hg : ps.getD (ps.length - 1) 0 = ps[d]'(by omega) := by
    have hi2 : ps.length - 1 = d := by omega
    have hi3 : d < ps.length := by omega
    rw [List.getD_eq_getElem?_getD, hi2, List.getElem?_eq_getElem hi3]; rfl
  refine ⟨d, hpl, ?_, ?_⟩
  · rw [hg]; exact h.lt _ _ _ hr _ (List.getElem_mem _)
  · rw [hg, ← hA]
    have := h.full _ _ _ hr d (by omega)
    have e3 : n - d * s.size = a := by rw [Nat.mul_comm]; omega
    rw [e3] at this
    omega
end Go.Proofs.Ytackjeckafoojaa.Kv
