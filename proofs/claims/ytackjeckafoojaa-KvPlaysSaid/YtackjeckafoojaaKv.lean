/- A pool in memory: rows of things in pages; what each store makes of it. -/
import Derived.Test.YtackjeckafoojaaIMap
import Derived.RangeFuncBox
import Derived.Deep.AppendLies
import Derived.Deep.Draws
namespace Go.Proofs.Ytackjeckafoojaa.Kv
open Go Go.RowKit

/-- What a block of a pool is. -/
inductive Role where
  | pool | pages | map | page (i : Nat) | row (id : Nat) | rowp (id : Nat)

/-- A pool: pages (things, count), how many things a page has room for, rows (the pages, how many things; none: closed). -/
structure PSt (α : Type) where
  pages : List (List α × Int)
  size : Nat
  rows : List (Option (List Nat × Nat))

structure KT where
  pool : TypeId
  page : TypeId
  elem : TypeId
  row : TypeId
  int : TypeId

variable {α : Type}

def PSt.lst (s : PSt α) (i : Nat) : List α := ((s.pages[i]?).map (·.1)).getD []
def PSt.cnt (s : PSt α) (i : Nat) : Int := ((s.pages[i]?).map (·.2)).getD 0
def PSt.row (s : PSt α) (id : Nat) : Option (List Nat × Nat) := (s.rows[id]?).getD none
def PSt.setPage (s : PSt α) (i : Nat) (p : List α × Int) : PSt α := { s with pages := s.pages.set i p }
def PSt.setRow (s : PSt α) (id : Nat) (r : Option (List Nat × Nat)) : PSt α := { s with rows := s.rows.set id r }
def openIds (rows : List (Option (List Nat × Nat))) : List Nat := (List.range rows.length).filter fun id => ((rows[id]?).getD none).isSome

/-- Where the parts lie. -/
structure Lay where
  g : Nat
  pb : Nat
  mb : Nat
  lv : Nat → Value
  rb : Nat → Nat
  pv : Nat → Value

def ints (l : List Nat) : List Value := l.map fun p : Nat => .int .i64 (p : Int)

structure PoolAt (K : KT) (enc : α → Value) (W : World) (ρ : Nat → Option Role) (L : Lay) (s : PSt α) : Prop where
  pool : W.heap[L.g]? = some (.cells #[.slice (some ⟨L.pb, 0, none⟩) s.pages.length s.pages.length, .int .i64 s.size, .map (some L.mb), .int .i64 s.rows.length] K.pool (0, 0))
  pages : ∃ cs, W.heap[L.pb]? = some (.cells cs K.page (0, 0)) ∧ cs.size = s.pages.length * 2 ∧ ∀ i, i < s.pages.length → cs[i * 2]? = some (L.lv i) ∧ cs[i * 2 + 1]? = some (.int .i64 (s.cnt i))
  map : IMap.At W L.mb ((openIds s.rows).map fun id : Nat => ((id : Int), .pointer (some ⟨L.rb id, 0, none⟩)))
  page : ∀ i, i < s.pages.length → W.ownsRow 0 K.elem 1 (L.lv i) (s.lst i).length ((s.lst i).map enc)
  row : ∀ id ps n, s.row id = some (ps, n) → W.heap[L.rb id]? = some (.cells #[L.pv id, .int .i64 (n : Int)] K.row (0, 0)) ∧ W.ownsRow 0 K.int 1 (L.pv id) ps.length (ints ps)
  rg : ρ L.g = some .pool
  rpb : ρ L.pb = some .pages
  rmb : ρ L.mb = some .map
  rpage : ∀ i, i < s.pages.length → ∀ b, (L.lv i).ownBlock = some b → ρ b = some (.page i)
  rrow : ∀ id r, s.row id = some r → ρ (L.rb id) = some (.row id)
  rrowp : ∀ id r, s.row id = some r → ∀ b, (L.pv id).ownBlock = some b → ρ b = some (.rowp id)

/-- All blocks of a role that is not r0 are as they were. -/
def KeepR (ρ : Nat → Option Role) (r0 : Option Role) (W W' : World) : Prop := ∀ b r, ρ b = some r → some r ≠ r0 → b < W.heap.size → W'.heap[b]? = W.heap[b]?

theorem own_same {W W' : World} {base : Nat} {e : TypeId} {size : Nat} {v : Value} {n : Nat} {xs : List Value} (h : W.ownsRow base e size v n xs) (hs : ∀ b, v.ownBlock = some b → W'.heap[b]? = W.heap[b]?) : W'.ownsRow base e size v n xs := by
  refine ⟨h.1, ?_⟩
  rcases h.2 with h2 | ⟨g, cap, cur, rfl, hb, hh, r⟩
  · exact .inl h2
  · exact .inr ⟨g, cap, cur, rfl, hb, (hs g rfl).trans hh, r⟩
theorem own_zero {W : World} {base : Nat} {e : TypeId} {size : Nat} {v : Value} {n : Nat} {xs : List Value} (h : W.ownsRow base e size v n xs) : W.ownsRow 0 e size v n xs := by
  refine ⟨h.1, ?_⟩
  rcases h.2 with h2 | ⟨g, cap, cur, e, _, r⟩
  · exact .inl h2
  · exact .inr ⟨g, cap, cur, e, Nat.zero_le _, r⟩
theorem own_lt' {W : World} {base : Nat} {e : TypeId} {size : Nat} {v : Value} {n : Nat} {xs : List Value} (h : W.ownsRow base e size v n xs) {b : Nat} (hb : v.ownBlock = some b) : b < W.heap.size := (h.lt b hb).2
theorem lt_of_some {W : World} {b : Nat} {o : Obj} (h : W.heap[b]? = some o) : b < W.heap.size := (Array.getElem?_eq_some_iff.1 h).1
theorem at_lt {W : World} {mb : Nat} {f : List (Int × Value)} (h : IMap.At W mb f) : mb < W.heap.size := by
  obtain ⟨es, c, hb, _⟩ := h
  exact lt_of_some hb

section
variable {K : KT} {enc : α → Value} {W W' : World} {ρ : Nat → Option Role} {L : Lay} {s : PSt α}

theorem PoolAt.keep (h : PoolAt K enc W ρ L s) (k : KeepR ρ none W W') : PoolAt K enc W' ρ L s := by
  refine ⟨(k _ _ h.rg (by simp) (lt_of_some h.pool)).trans h.pool, ?_, h.map.same (k _ _ h.rmb (by simp) (at_lt h.map)), ?_, ?_, h.rg, h.rpb, h.rmb, h.rpage, h.rrow, h.rrowp⟩
  · obtain ⟨cs, h1, h2⟩ := h.pages
    exact ⟨cs, (k _ _ h.rpb (by simp) (lt_of_some h1)).trans h1, h2⟩
  · intro i hi
    exact own_same (h.page i hi) fun b hb => k b _ (h.rpage i hi b hb) (by simp) (own_lt' (h.page i hi) hb)
  · intro id ps n hr
    obtain ⟨h1, h2⟩ := h.row id ps n hr
    exact ⟨(k _ _ (h.rrow id _ hr) (by simp) (lt_of_some h1)).trans h1, own_same h2 fun b hb => k b _ (h.rrowp id _ hr b hb) (by simp) (own_lt' h2 hb)⟩

/-- The world is as it was but for a pool's blocks, and new ones. -/
structure Fr (W : World) (ρ : Nat → Option Role) (W' : World) (ρ' : Nat → Option Role) : Prop where
  os : W'.os = W.os
  tape : W'.tape = W.tape
  output : W'.output = W.output
  size : W.heap.size ≤ W'.heap.size
  block : ∀ k, k < W.heap.size → ρ k = none → W'.heap[k]? = W.heap[k]? ∧ ρ' k = none
theorem Fr.refl (W : World) (ρ : Nat → Option Role) : Fr W ρ W ρ := ⟨rfl, rfl, rfl, Nat.le_refl _, fun _ _ h => ⟨rfl, h⟩⟩
theorem Fr.trans {W1 W2 W3 : World} {ρ1 ρ2 ρ3 : Nat → Option Role} (h : Fr W1 ρ1 W2 ρ2) (k : Fr W2 ρ2 W3 ρ3) : Fr W1 ρ1 W3 ρ3 :=
  ⟨k.os.trans h.os, k.tape.trans h.tape, k.output.trans h.output, Nat.le_trans h.size k.size, fun b hb hr =>
    have h1 := h.block b hb hr
    have h2 := k.block b (Nat.lt_of_lt_of_le hb h.size) h1.2
    ⟨h2.1.trans h1.1, h2.2⟩⟩
theorem Fr.of_below (h : Below W.heap.size W W') : Fr W ρ W' ρ := ⟨h.os, h.tape, h.output, h.size, fun k hk hr => ⟨h.block k hk, hr⟩⟩
theorem Fr.setCell {b : Nat} (o : Nat) (v : Value) (hb : ρ b ≠ none) : Fr W ρ (W.setCell ⟨b, o, none⟩ v) ρ :=
  ⟨rfl, rfl, rfl, by simp [World.setCell], fun k _ hr => ⟨Below.heap_setCell _ _ _ _ (by rintro rfl; exact hb hr), hr⟩⟩
theorem Fr.drewN (n : Nat) : Fr W ρ (W.drewN n) ρ := ⟨rfl, rfl, rfl, Nat.le_refl _, fun k _ hr => ⟨rfl, hr⟩⟩

theorem keepR_below {r0 : Option Role} (h : Below W.heap.size W W') : KeepR ρ r0 W W' := fun b _ _ _ hb => h.block b hb
theorem keepR_setCell {b : Nat} {r : Role} (o : Nat) (v : Value) (hb : ρ b = some r) : KeepR ρ (some r) W (W.setCell ⟨b, o, none⟩ v) := fun c r' hc hne _ =>
  Below.heap_setCell _ _ _ _ (by rintro rfl; rw [hc] at hb; exact hne hb)

theorem below_trans {w w' w'' : World} (h : Below w.heap.size w w') (k : Below w'.heap.size w' w'') : Below w.heap.size w w'' :=
  ⟨k.os.trans h.os, k.tape.trans h.tape, k.output.trans h.output, Nat.le_trans h.size k.size, fun b hb => (k.block b (Nat.lt_of_lt_of_le hb h.size)).trans (h.block b hb)⟩
theorem below_undrew {w w' : World} (h : Below w.drew.heap.size w.drew w') : Below w.heap.size w w' := ⟨h.os, h.tape, h.output, h.size, h.block⟩
theorem below_undrewN {w w' : World} {n : Nat} (h : Below (w.drewN n).heap.size (w.drewN n) w') : Below w.heap.size w w' := ⟨h.os, h.tape, h.output, h.size, h.block⟩
theorem PoolAt.drewN (h : PoolAt K enc W ρ L s) (n : Nat) : PoolAt K enc (W.drewN n) ρ L s := h.keep fun _ _ _ _ _ => rfl
theorem PoolAt.below (h : PoolAt K enc W ρ L s) (hb : Below W.heap.size W W') : PoolAt K enc W' ρ L s := h.keep (keepR_below hb)

/-! ### What is read -/
theorem PoolAt.cells (h : PoolAt K enc W ρ L s) : W.cell? ⟨L.g, 0, none⟩ = some (.slice (some ⟨L.pb, 0, none⟩) s.pages.length s.pages.length) ∧ W.cell? ⟨L.g, 1, none⟩ = some (.int .i64 s.size) ∧ W.cell? ⟨L.g, 2, none⟩ = some (.map (some L.mb)) ∧ W.cell? ⟨L.g, 3, none⟩ = some (.int .i64 s.rows.length) := by
  refine ⟨?_, ?_, ?_, ?_⟩ <;> (rw [cell_of_row W L.g _ _ _ _ h.pool]; rfl)
theorem PoolAt.frozen (h : PoolAt K enc W ρ L s) (j : Nat) : W.frozen? ⟨L.g, j, none⟩ = false := frozen_of_row W L.g j _ _ h.pool
theorem PoolAt.pageCell (h : PoolAt K enc W ρ L s) (i : Nat) (hi : i < s.pages.length) : W.cell? ⟨L.pb, i * 2, none⟩ = some (L.lv i) ∧ W.cell? ⟨L.pb, i * 2 + 1, none⟩ = some (.int .i64 (s.cnt i)) := by
  obtain ⟨cs, h1, h2, h3⟩ := h.pages
  exact ⟨(cell_of_row W L.pb _ _ _ _ h1).trans (h3 i hi).1, (cell_of_row W L.pb _ _ _ _ h1).trans (h3 i hi).2⟩
theorem PoolAt.pageFrozen (h : PoolAt K enc W ρ L s) (j : Nat) : W.frozen? ⟨L.pb, j, none⟩ = false := by
  obtain ⟨cs, h1, _⟩ := h.pages
  exact frozen_of_row W L.pb j _ _ h1
theorem PoolAt.rowCell (h : PoolAt K enc W ρ L s) {id : Nat} {ps : List Nat} {n : Nat} (hr : s.row id = some (ps, n)) : W.cell? ⟨L.rb id, 0, none⟩ = some (L.pv id) ∧ W.cell? ⟨L.rb id, 1, none⟩ = some (.int .i64 (n : Int)) := by
  have h1 := (h.row id ps n hr).1
  constructor <;> (rw [cell_of_row W _ _ _ _ _ h1]; rfl)
theorem PoolAt.rowFrozen (h : PoolAt K enc W ρ L s) {id : Nat} {ps : List Nat} {n : Nat} (hr : s.row id = some (ps, n)) (j : Nat) : W.frozen? ⟨L.rb id, j, none⟩ = false := frozen_of_row W _ j _ _ (h.row id ps n hr).1
theorem own_read {base : Nat} {e : TypeId} {v : Value} {n : Nat} {xs : List Value} (h : W.ownsRow base e 1 v n xs) (hn : 0 < n) : ∃ g cap, v = .slice (some ⟨g, 0, none⟩) n cap ∧ g < W.heap.size ∧ ∀ j x, xs[j]? = some x → W.cell? ⟨g, j, none⟩ = some x := by
  obtain ⟨g, cap, rfl, _, hlt⟩ := h.form hn
  refine ⟨g, cap, rfl, hlt, fun j x hx => ?_⟩
  have := h.cells (g := g) rfl j x hx
  rw [← this]
  congr 1
  unfold Addr.add
  split <;> simp_all

/-! ### What becomes of the state -/
theorem setPage_len (i : Nat) (p : List α × Int) : (s.setPage i p).pages.length = s.pages.length := by simp [PSt.setPage]
theorem setPage_cnt_same {i : Nat} (hi : i < s.pages.length) (p : List α × Int) : (s.setPage i p).cnt i = p.2 := by simp [PSt.setPage, PSt.cnt, hi]
theorem setPage_cnt_other {i j : Nat} (hne : i ≠ j) (p : List α × Int) : (s.setPage i p).cnt j = s.cnt j := by simp [PSt.setPage, PSt.cnt, List.getElem?_set_ne hne]
theorem setPage_lst_same {i : Nat} (hi : i < s.pages.length) (p : List α × Int) : (s.setPage i p).lst i = p.1 := by simp [PSt.setPage, PSt.lst, hi]
theorem setPage_lst_other {i j : Nat} (hne : i ≠ j) (p : List α × Int) : (s.setPage i p).lst j = s.lst j := by simp [PSt.setPage, PSt.lst, List.getElem?_set_ne hne]

theorem role_ne {a b : Nat} {r r' : Role} (ha : ρ a = some r) (hb : ρ b = some r') (hne : r ≠ r') : a ≠ b := by
  rintro rfl
  rw [ha] at hb
  exact hne (Option.some.inj hb)

/-- A page's count. -/
theorem PoolAt.count (h : PoolAt K enc W ρ L s) {i : Nat} (hi : i < s.pages.length) (c : Int) : PoolAt K enc (W.setCell ⟨L.pb, i * 2 + 1, none⟩ (.int .i64 c)) ρ L (s.setPage i (s.lst i, c)) := by
  have k : KeepR ρ (some .pages) W (W.setCell ⟨L.pb, i * 2 + 1, none⟩ (.int .i64 c)) := keepR_setCell _ _ h.rpb
  refine ⟨?_, ?_, h.map.same (k _ _ h.rmb (by simp) (at_lt h.map)), ?_, ?_, h.rg, h.rpb, h.rmb, ?_, h.rrow, h.rrowp⟩
  · rw [setPage_len]; exact (k _ _ h.rg (by simp) (lt_of_some h.pool)).trans h.pool
  · obtain ⟨cs, h1, h2, h3⟩ := h.pages
    refine ⟨cs.setIfInBounds (i * 2 + 1) (.int .i64 c), heap_setCell_same W L.pb _ _ _ _ h1, by rw [setPage_len]; simpa using h2, fun j hj => ?_⟩
    rw [setPage_len] at hj
    have hj3 := h3 j hj
    rw [Array.getElem?_setIfInBounds, Array.getElem?_setIfInBounds, if_neg (by omega)]
    refine ⟨hj3.1, ?_⟩
    by_cases hij : i = j
    · subst hij
      rw [if_pos rfl, if_pos (by omega), setPage_cnt_same hi]
    · rw [if_neg (by omega), setPage_cnt_other hij]; exact hj3.2
  · intro j hj
    rw [setPage_len] at hj
    have e : (s.setPage i (s.lst i, c)).lst j = s.lst j := by
      by_cases hij : i = j
      · subst hij; rw [setPage_lst_same hi]
      · rw [setPage_lst_other hij]
    rw [e]
    exact own_same (h.page j hj) fun b hb => k b _ (h.rpage j hj b hb) (by simp) (own_lt' (h.page j hj) hb)
  · intro id ps n hr
    obtain ⟨h1, h2⟩ := h.row id ps n hr
    exact ⟨(k _ _ (h.rrow id _ hr) (by simp) (lt_of_some h1)).trans h1, own_same h2 fun b hb => k b _ (h.rrowp id _ hr b hb) (by simp) (own_lt' h2 hb)⟩
  · intro j hj
    rw [setPage_len] at hj
    exact h.rpage j hj

/-- A page's things are another list, in a block that was its own or is new (W to W1), which is stored (W1 to W'). -/
def upR (ρ : Nat → Option Role) (v : Value) (r : Role) : Nat → Option Role := fun b => match v.ownBlock with
  | some g => if b = g then some r else ρ b
  | none => ρ b
theorem upR_other {v : Value} {r : Role} {b : Nat} (h : ∀ g, v.ownBlock = some g → b ≠ g) : upR ρ v r b = ρ b := by
  unfold upR
  split
  · rename_i g hg; rw [if_neg (h g hg)]
  · rfl
theorem upR_same {v : Value} {r : Role} {g : Nat} (h : v.ownBlock = some g) : upR ρ v r g = some r := by
  unfold upR; rw [h]; simp

theorem PoolAt.newPage {W1 : World} (h : PoolAt K enc W ρ L s) {i : Nat} (hi : i < s.pages.length) (v : Value) (l : List α) (k : KeepR ρ (some (.page i)) W W1)
    (hown : W1.ownsRow 0 K.elem 1 v l.length (l.map enc)) (hv : ∀ g, v.ownBlock = some g → (L.lv i).ownBlock = some g ∨ W.heap.size ≤ g) (hsz : W.heap.size ≤ W1.heap.size) :
    PoolAt K enc (W1.setCell ⟨L.pb, i * 2, none⟩ v) (upR ρ v (.page i)) { L with lv := fun j => if j = i then v else L.lv j } (s.setPage i (l, s.cnt i)) := by
  have hpl : ∀ {b : Nat} {r : Role}, ρ b = some r → r ≠ .page i → b < W.heap.size → upR ρ v (.page i) b = ρ b := by
    intro b r hr hne hlt
    refine upR_other fun g hg e => ?_
    subst e
    rcases hv _ hg with h1 | h1
    · have := h.rpage i hi _ h1
      rw [hr] at this
      exact hne (Option.some.inj this)
    · omega
  have hpb1 : W1.heap[L.pb]? = W.heap[L.pb]? := k _ _ h.rpb (by simp) (by obtain ⟨cs, h1, _⟩ := h.pages; exact lt_of_some h1)
  have hpbv : ∀ g, v.ownBlock = some g → L.pb ≠ g := by
    intro g hg e
    subst e
    rcases hv _ hg with h1 | h1
    · have := h.rpage i hi _ h1
      rw [h.rpb] at this; simp at this
    · obtain ⟨cs, h2, _⟩ := h.pages; have := lt_of_some h2; omega
  have k2 : ∀ b, b ≠ L.pb → (W1.setCell ⟨L.pb, i * 2, none⟩ v).heap[b]? = W1.heap[b]? := fun b hb => Below.heap_setCell _ _ _ _ hb
  have k3 : ∀ b r, ρ b = some r → r ≠ .page i → r ≠ .pages → b < W.heap.size → (W1.setCell ⟨L.pb, i * 2, none⟩ v).heap[b]? = W.heap[b]? := fun b r hr h1 h2 hlt =>
    (k2 b (role_ne hr h.rpb h2)).trans (k b r hr (by simpa using h1) hlt)
  refine ⟨?_, ?_, ?_, ?_, ?_, ?_, ?_, ?_, ?_, ?_, ?_⟩
  · rw [setPage_len]; exact (k3 _ _ h.rg (by simp) (by simp) (lt_of_some h.pool)).trans h.pool
  · obtain ⟨cs, h1, h2, h3⟩ := h.pages
    refine ⟨cs.setIfInBounds (i * 2) v, heap_setCell_same W1 L.pb _ _ _ _ (hpb1.trans h1), by rw [setPage_len]; simpa using h2, fun j hj => ?_⟩
    rw [setPage_len] at hj
    have hj3 := h3 j hj
    rw [Array.getElem?_setIfInBounds, Array.getElem?_setIfInBounds, if_neg (show ¬ (i * 2 = j * 2 + 1) by omega)]
    by_cases hij : i = j
    · subst hij
      rw [if_pos rfl, if_pos (by omega), setPage_cnt_same hi]
      exact ⟨by simp, hj3.2⟩
    · rw [if_neg (by omega), setPage_cnt_other hij]
      exact ⟨by simp only; rw [if_neg (Ne.symm hij)]; exact hj3.1, hj3.2⟩
  · exact h.map.same (k3 _ _ h.rmb (by simp) (by simp) (at_lt h.map))
  · intro j hj
    rw [setPage_len] at hj
    by_cases hij : i = j
    · subst hij
      rw [setPage_lst_same hi]
      simp only [if_true]
      exact own_same hown fun b hb => k2 b (fun e => hpbv b hb e.symm)
    · rw [setPage_lst_other hij]
      simp only [if_neg (Ne.symm hij)]
      exact own_same (h.page j hj) fun b hb => k3 b _ (h.rpage j hj b hb) (by simpa using Ne.symm hij) (by simp) (own_lt' (h.page j hj) hb)
  · intro id ps n hr
    obtain ⟨h1, h2⟩ := h.row id ps n hr
    exact ⟨(k3 _ _ (h.rrow id _ hr) (by simp) (by simp) (lt_of_some h1)).trans h1, own_same h2 fun b hb => k3 b _ (h.rrowp id _ hr b hb) (by simp) (by simp) (own_lt' h2 hb)⟩
  · exact (hpl h.rg (by simp) (lt_of_some h.pool)).trans h.rg
  · exact (hpl h.rpb (by simp) (by obtain ⟨cs, h1, _⟩ := h.pages; exact lt_of_some h1)).trans h.rpb
  · exact (hpl h.rmb (by simp) (at_lt h.map)).trans h.rmb
  · intro j hj b hb
    rw [setPage_len] at hj
    by_cases hij : i = j
    · subst hij
      simp only [if_true] at hb
      exact upR_same hb
    · simp only [if_neg (Ne.symm hij)] at hb
      have hr := h.rpage j hj b hb
      exact (hpl hr (by simpa using Ne.symm hij) (own_lt' (h.page j hj) hb)).trans hr
  · intro id r hr
    obtain ⟨ps, n⟩ := r
    have := h.rrow id _ hr
    exact (hpl this (by simp) (lt_of_some (h.row id ps n hr).1)).trans this
  · intro id r hr b hb
    obtain ⟨ps, n⟩ := r
    have := h.rrowp id _ hr b hb
    exact (hpl this (by simp) (own_lt' (h.row id ps n hr).2 hb)).trans this

theorem setRow_len (id : Nat) (r : Option (List Nat × Nat)) : (s.setRow id r).rows.length = s.rows.length := by simp [PSt.setRow]
theorem setRow_same {id : Nat} (h : id < s.rows.length) (r : Option (List Nat × Nat)) : (s.setRow id r).row id = r := by simp [PSt.setRow, PSt.row, h]
theorem setRow_other {id j : Nat} (hne : id ≠ j) (r : Option (List Nat × Nat)) : (s.setRow id r).row j = s.row j := by simp [PSt.setRow, PSt.row, List.getElem?_set_ne hne]
theorem row_lt {id : Nat} {r : List Nat × Nat} (h : s.row id = some r) : id < s.rows.length := by
  unfold PSt.row at h
  rcases Nat.lt_or_ge id s.rows.length with hlt | hge
  · exact hlt
  · rw [List.getElem?_eq_none hge] at h; simp at h
theorem setRow_openIds {id : Nat} {r r' : List Nat × Nat} (h : s.row id = some r) : openIds (s.setRow id (some r')).rows = openIds s.rows := by
  have hlt := row_lt h
  unfold openIds PSt.setRow
  simp only [List.length_set]
  refine List.filter_congr fun j hj => ?_
  by_cases hj' : id = j
  · subst hj'
    unfold PSt.row at h
    rw [h]
    simp [hlt]
  · rw [List.getElem?_set_ne hj']

/-- A row's pages are another list (W to W1), which is stored (W1 to W'). -/
theorem PoolAt.newRowp {W1 : World} (h : PoolAt K enc W ρ L s) {id : Nat} {ps : List Nat} {n : Nat} (hr : s.row id = some (ps, n)) (v : Value) (l : List Nat) (k : KeepR ρ (some (.rowp id)) W W1)
    (hown : W1.ownsRow 0 K.int 1 v l.length (ints l)) (hv : ∀ g, v.ownBlock = some g → (L.pv id).ownBlock = some g ∨ W.heap.size ≤ g) :
    PoolAt K enc (W1.setCell ⟨L.rb id, 0, none⟩ v) (upR ρ v (.rowp id)) { L with pv := fun j => if j = id then v else L.pv j } (s.setRow id (some (l, n))) := by
  have hid := row_lt hr
  have hrow := h.row id ps n hr
  have hpl : ∀ {b : Nat} {r : Role}, ρ b = some r → r ≠ .rowp id → b < W.heap.size → upR ρ v (.rowp id) b = ρ b := by
    intro b r hr' hne hlt
    refine upR_other fun g hg e => ?_
    subst e
    rcases hv _ hg with h1 | h1
    · have := h.rrowp id _ hr _ h1
      rw [hr'] at this
      exact hne (Option.some.inj this)
    · omega
  have hrb := h.rrow id _ hr
  have hrb1 : W1.heap[L.rb id]? = W.heap[L.rb id]? := k _ _ hrb (by simp) (lt_of_some hrow.1)
  have hrbv : ∀ g, v.ownBlock = some g → L.rb id ≠ g := by
    intro g hg e
    rcases hv _ hg with h1 | h1
    · have := h.rrowp id _ hr _ h1
      rw [← e, hrb] at this; simp at this
    · have := lt_of_some hrow.1; omega
  have k2 : ∀ b, b ≠ L.rb id → (W1.setCell ⟨L.rb id, 0, none⟩ v).heap[b]? = W1.heap[b]? := fun b hb => Below.heap_setCell _ _ _ _ hb
  have k3 : ∀ b r, ρ b = some r → r ≠ .rowp id → r ≠ .row id → b < W.heap.size → (W1.setCell ⟨L.rb id, 0, none⟩ v).heap[b]? = W.heap[b]? := fun b r hr' h1 h2 hlt =>
    (k2 b (role_ne hr' hrb h2)).trans (k b r hr' (by simpa using h1) hlt)
  refine ⟨?_, ?_, ?_, ?_, ?_, ?_, ?_, ?_, ?_, ?_, ?_⟩
  · rw [setRow_len]; exact (k3 _ _ h.rg (by simp) (by simp) (lt_of_some h.pool)).trans h.pool
  · obtain ⟨cs, h1, h2⟩ := h.pages
    exact ⟨cs, (k3 _ _ h.rpb (by simp) (by simp) (lt_of_some h1)).trans h1, h2⟩
  · rw [setRow_openIds hr]; exact h.map.same (k3 _ _ h.rmb (by simp) (by simp) (at_lt h.map))
  · intro i hi
    exact own_same (h.page i hi) fun b hb => k3 b _ (h.rpage i hi b hb) (by simp) (by simp) (own_lt' (h.page i hi) hb)
  · intro j qs m hj
    by_cases hij : id = j
    · subst hij
      rw [setRow_same hid] at hj
      simp only [Option.some.injEq, Prod.mk.injEq] at hj
      obtain ⟨rfl, rfl⟩ := hj
      simp only [if_true]
      refine ⟨?_, own_same hown fun b hb => k2 b (fun e => hrbv b hb e.symm)⟩
      have := heap_setCell_same W1 (L.rb id) 0 _ _ v (hrb1.trans hrow.1)
      simpa using this
    · rw [setRow_other hij] at hj
      obtain ⟨h1, h2⟩ := h.row j qs m hj
      have hj' : j ≠ id := Ne.symm hij
      simp only [if_neg hj']
      exact ⟨(k3 _ _ (h.rrow j _ hj) (by simp) (by simpa using hj') (lt_of_some h1)).trans h1, own_same h2 fun b hb => k3 b _ (h.rrowp j _ hj b hb) (by simpa using hj') (by simp) (own_lt' h2 hb)⟩
  · exact (hpl h.rg (by simp) (lt_of_some h.pool)).trans h.rg
  · exact (hpl h.rpb (by simp) (by obtain ⟨cs, h1, _⟩ := h.pages; exact lt_of_some h1)).trans h.rpb
  · exact (hpl h.rmb (by simp) (at_lt h.map)).trans h.rmb
  · intro i hi b hb
    have hr' := h.rpage i hi b hb
    exact (hpl hr' (by simp) (own_lt' (h.page i hi) hb)).trans hr'
  · intro j r hj
    by_cases hij : id = j
    · subst hij
      exact (hpl hrb (by simp) (lt_of_some hrow.1)).trans hrb
    · rw [setRow_other hij] at hj
      obtain ⟨qs, m⟩ := r
      have := h.rrow j _ hj
      exact (hpl this (by simp) (lt_of_some (h.row j qs m hj).1)).trans this
  · intro j r hj b hb
    by_cases hij : id = j
    · subst hij
      simp only [if_true] at hb
      exact upR_same hb
    · rw [setRow_other hij] at hj
      have hj' : j ≠ id := Ne.symm hij
      simp only [if_neg hj'] at hb
      obtain ⟨qs, m⟩ := r
      have := h.rrowp j _ hj b hb
      exact (hpl this (by simpa using hj') (own_lt' (h.row j qs m hj).2 hb)).trans this

theorem ints_set (l : List Nat) (k p : Nat) : (ints l).set k (.int .i64 (p : Int)) = ints (l.set k p) := by
  simp [ints, List.map_set]

/-- A row's page is another one, stored in place. -/
theorem PoolAt.setRowp (h : PoolAt K enc W ρ L s) {id : Nat} {ps : List Nat} {n : Nat} (hr : s.row id = some (ps, n)) {g cap : Nat} (hg : L.pv id = .slice (some ⟨g, 0, none⟩) ps.length cap) (k p : Nat) (hk : k < ps.length) :
    PoolAt K enc (W.setCell ⟨g, k, none⟩ (.int .i64 (p : Int))) ρ L (s.setRow id (some (ps.set k p, n))) := by
  have hid := row_lt hr
  have hrow := h.row id ps n hr
  have hgr : ρ g = some (.rowp id) := h.rrowp id _ hr g (by rw [hg]; rfl)
  have kk : KeepR ρ (some (.rowp id)) W (W.setCell ⟨g, k, none⟩ (.int .i64 (p : Int))) := keepR_setCell _ _ hgr
  refine ⟨?_, ?_, ?_, ?_, ?_, h.rg, h.rpb, h.rmb, h.rpage, ?_, ?_⟩
  · rw [setRow_len]; exact (kk _ _ h.rg (by simp) (lt_of_some h.pool)).trans h.pool
  · obtain ⟨cs, h1, h2⟩ := h.pages
    exact ⟨cs, (kk _ _ h.rpb (by simp) (lt_of_some h1)).trans h1, h2⟩
  · rw [setRow_openIds hr]; exact h.map.same (kk _ _ h.rmb (by simp) (at_lt h.map))
  · intro i hi
    exact own_same (h.page i hi) fun b hb => kk b _ (h.rpage i hi b hb) (by simp) (own_lt' (h.page i hi) hb)
  · intro j qs m hj
    by_cases hij : id = j
    · subst hij
      rw [setRow_same hid] at hj
      simp only [Option.some.injEq, Prod.mk.injEq] at hj
      obtain ⟨rfl, rfl⟩ := hj
      refine ⟨(kk _ _ (h.rrow id _ hr) (by simp) (lt_of_some hrow.1)).trans hrow.1, ?_⟩
      have := hrow.2
      rw [hg] at this ⊢
      have h2 := (this.stored k (.int .i64 (p : Int))).1
      rw [ints_set] at h2
      simpa using h2
    · rw [setRow_other hij] at hj
      obtain ⟨h1, h2⟩ := h.row j qs m hj
      have hj' : j ≠ id := Ne.symm hij
      exact ⟨(kk _ _ (h.rrow j _ hj) (by simp) (lt_of_some h1)).trans h1, own_same h2 fun b hb => kk b _ (h.rrowp j _ hj b hb) (by simpa using hj') (own_lt' h2 hb)⟩
  · intro j r hj
    by_cases hij : id = j
    · subst hij; exact h.rrow id _ hr
    · rw [setRow_other hij] at hj; exact h.rrow j r hj
  · intro j r hj
    by_cases hij : id = j
    · subst hij; exact h.rrowp id _ hr
    · rw [setRow_other hij] at hj; exact h.rrowp j r hj

/-- How many things a row has. -/
theorem PoolAt.setRown (h : PoolAt K enc W ρ L s) {id : Nat} {ps : List Nat} {n : Nat} (hr : s.row id = some (ps, n)) (m : Nat) :
    PoolAt K enc (W.setCell ⟨L.rb id, 1, none⟩ (.int .i64 (m : Int))) ρ L (s.setRow id (some (ps, m))) := by
  have hid := row_lt hr
  have hrow := h.row id ps n hr
  have hgr := h.rrow id _ hr
  have kk : KeepR ρ (some (.row id)) W (W.setCell ⟨L.rb id, 1, none⟩ (.int .i64 (m : Int))) := keepR_setCell _ _ hgr
  refine ⟨?_, ?_, ?_, ?_, ?_, h.rg, h.rpb, h.rmb, h.rpage, ?_, ?_⟩
  · rw [setRow_len]; exact (kk _ _ h.rg (by simp) (lt_of_some h.pool)).trans h.pool
  · obtain ⟨cs, h1, h2⟩ := h.pages
    exact ⟨cs, (kk _ _ h.rpb (by simp) (lt_of_some h1)).trans h1, h2⟩
  · rw [setRow_openIds hr]; exact h.map.same (kk _ _ h.rmb (by simp) (at_lt h.map))
  · intro i hi
    exact own_same (h.page i hi) fun b hb => kk b _ (h.rpage i hi b hb) (by simp) (own_lt' (h.page i hi) hb)
  · intro j qs m' hj
    by_cases hij : id = j
    · subst hij
      rw [setRow_same hid] at hj
      simp only [Option.some.injEq, Prod.mk.injEq] at hj
      obtain ⟨rfl, rfl⟩ := hj
      refine ⟨?_, own_same hrow.2 fun b hb => kk b _ (h.rrowp id _ hr b hb) (by simp) (own_lt' hrow.2 hb)⟩
      have := heap_setCell_same W (L.rb id) 1 _ _ (.int .i64 (m : Int)) hrow.1
      simpa using this
    · rw [setRow_other hij] at hj
      obtain ⟨h1, h2⟩ := h.row j qs m' hj
      have hj' : j ≠ id := Ne.symm hij
      exact ⟨(kk _ _ (h.rrow j _ hj) (by simpa using hj') (lt_of_some h1)).trans h1, own_same h2 fun b hb => kk b _ (h.rrowp j _ hj b hb) (by simp) (own_lt' h2 hb)⟩
  · intro j r hj
    by_cases hij : id = j
    · subst hij; exact h.rrow id _ hr
    · rw [setRow_other hij] at hj; exact h.rrow j r hj
  · intro j r hj
    by_cases hij : id = j
    · subst hij; exact h.rrowp id _ hr
    · rw [setRow_other hij] at hj; exact h.rrowp j r hj

theorem openIds_push (rows : List (Option (List Nat × Nat))) (r : List Nat × Nat) : openIds (rows ++ [some r]) = openIds rows ++ [rows.length] := by
  unfold openIds
  rw [List.length_append, List.length_singleton, List.range_succ, List.filter_append]
  congr 1
  · refine List.filter_congr fun j hj => ?_
    rw [List.getElem?_append_left (List.mem_range.1 hj)]
  · simp
theorem openIds_lt {rows : List (Option (List Nat × Nat))} {j : Nat} (h : j ∈ openIds rows) : j < rows.length := List.mem_range.1 (List.mem_filter.1 h).1
theorem openIds_mem {id : Nat} : id ∈ openIds s.rows ↔ ∃ r, s.row id = some r := by
  unfold openIds PSt.row
  rw [List.mem_filter, List.mem_range]
  constructor
  · rintro ⟨_, h⟩
    exact Option.isSome_iff_exists.1 h
  · rintro ⟨r, h⟩
    refine ⟨?_, by rw [h]; rfl⟩
    exact row_lt (s := s) h

/-- A row more: its block and its pages' are no pool's so far; the map has it (W to W1), and then the number is raised (W1 to W'). -/
theorem PoolAt.newRow {W1 : World} (h : PoolAt K enc W ρ L s) (b : Nat) (v : Value) (ps : List Nat) (n : Nat) (hrow : W.heap[b]? = some (.cells #[v, .int .i64 (n : Int)] K.row (0, 0))) (hown : W.ownsRow 0 K.int 1 v ps.length (ints ps))
    (hb : ρ b = none) (hv : ∀ g, v.ownBlock = some g → ρ g = none ∧ g ≠ b) (hmap : IMap.At W1 L.mb (((openIds s.rows).map fun id : Nat => ((id : Int), (.pointer (some ⟨L.rb id, 0, none⟩) : Value))) ++ [((s.rows.length : Int), .pointer (some ⟨b, 0, none⟩))])) (hg : W.grownBy W1 (some L.mb)) :
    PoolAt K enc (W1.setCell ⟨L.g, 3, none⟩ (.int .i64 ((s.rows.length + 1 : Nat) : Int))) (upR (fun c => if c = b then some (.row s.rows.length) else ρ c) v (.rowp s.rows.length))
      { L with rb := fun j => if j = s.rows.length then b else L.rb j, pv := fun j => if j = s.rows.length then v else L.pv j } { s with rows := s.rows ++ [some (ps, n)] } := by
  have hpl : ∀ {c : Nat} {r : Role}, ρ c = some r → upR (fun c => if c = b then some (.row s.rows.length) else ρ c) v (.rowp s.rows.length) c = ρ c := by
    intro c r hc
    rw [upR_other]
    · rw [if_neg]
      rintro rfl
      rw [hb] at hc; simp at hc
    · intro g hg' e
      subst e
      rw [(hv _ hg').1] at hc; simp at hc
  have k2 : ∀ c, c ≠ L.g → (W1.setCell ⟨L.g, 3, none⟩ (.int .i64 ((s.rows.length + 1 : Nat) : Int))).heap[c]? = W1.heap[c]? := fun c hc => Below.heap_setCell _ _ _ _ hc
  have k1 : ∀ c, c < W.heap.size → c ≠ L.mb → W1.heap[c]? = W.heap[c]? := fun c hc hne => hg.block c hc (by simpa using hne)
  have k3 : ∀ c r, ρ c = some r → r ≠ .map → r ≠ .pool → c < W.heap.size → (W1.setCell ⟨L.g, 3, none⟩ (.int .i64 ((s.rows.length + 1 : Nat) : Int))).heap[c]? = W.heap[c]? := fun c r hc h1 h2 hlt =>
    (k2 c (role_ne hc h.rg h2)).trans (k1 c hlt (role_ne hc h.rmb h1))
  have k4 : ∀ c, ρ c = none → c < W.heap.size → (W1.setCell ⟨L.g, 3, none⟩ (.int .i64 ((s.rows.length + 1 : Nat) : Int))).heap[c]? = W.heap[c]? := fun c hc hlt =>
    (k2 c (by rintro rfl; rw [h.rg] at hc; simp at hc)).trans (k1 c hlt (by rintro rfl; rw [h.rmb] at hc; simp at hc))
  have hrowNew : ({ s with rows := s.rows ++ [some (ps, n)] } : PSt α).row s.rows.length = some (ps, n) := by simp [PSt.row]
  have hrowOld : ∀ j, j ≠ s.rows.length → ({ s with rows := s.rows ++ [some (ps, n)] } : PSt α).row j = s.row j := by
    intro j hj
    unfold PSt.row
    rcases Nat.lt_or_ge j s.rows.length with hlt | hge
    · simp only; rw [List.getElem?_append_left hlt]
    · simp only
      rw [List.getElem?_eq_none (by simp; omega), List.getElem?_eq_none hge]
  refine ⟨?_, ?_, ?_, ?_, ?_, ?_, ?_, ?_, ?_, ?_, ?_⟩
  · have h1 := (k1 L.g (lt_of_some h.pool) (role_ne h.rg h.rmb (by simp))).trans h.pool
    have := heap_setCell_same W1 L.g 3 _ _ (.int .i64 ((s.rows.length + 1 : Nat) : Int)) h1
    simpa using this
  · obtain ⟨cs, h1, h2⟩ := h.pages
    exact ⟨cs, (k3 _ _ h.rpb (by simp) (by simp) (lt_of_some h1)).trans h1, h2⟩
  · refine (IMap.At.same ?_ (k2 L.mb (role_ne h.rmb h.rg (by simp))))
    simp only [openIds_push, List.map_append, List.map_cons, List.map_nil, if_true]
    have e : (openIds s.rows).map (fun id : Nat => ((id : Int), (.pointer (some ⟨if id = s.rows.length then b else L.rb id, 0, none⟩) : Value))) = (openIds s.rows).map (fun id : Nat => ((id : Int), (.pointer (some ⟨L.rb id, 0, none⟩) : Value))) := by
      refine List.map_congr_left fun j hj => ?_
      rw [if_neg (by have := openIds_lt hj; omega)]
    rw [e]
    exact hmap
  · intro i hi
    exact own_same (h.page i hi) fun c hc => k3 c _ (h.rpage i hi c hc) (by simp) (by simp) (own_lt' (h.page i hi) hc)
  · intro j qs m hj
    by_cases hij : j = s.rows.length
    · subst hij
      rw [hrowNew] at hj
      simp only [Option.some.injEq, Prod.mk.injEq] at hj
      obtain ⟨rfl, rfl⟩ := hj
      simp only [if_true]
      exact ⟨(k4 b hb (lt_of_some hrow)).trans hrow, own_same hown fun c hc => k4 c (hv c hc).1 (own_lt' hown hc)⟩
    · rw [hrowOld j hij] at hj
      obtain ⟨h1, h2⟩ := h.row j qs m hj
      simp only [if_neg hij]
      exact ⟨(k3 _ _ (h.rrow j _ hj) (by simp) (by simp) (lt_of_some h1)).trans h1, own_same h2 fun c hc => k3 c _ (h.rrowp j _ hj c hc) (by simp) (by simp) (own_lt' h2 hc)⟩
  · exact (hpl h.rg).trans h.rg
  · exact (hpl h.rpb).trans h.rpb
  · exact (hpl h.rmb).trans h.rmb
  · intro i hi c hc
    have := h.rpage i hi c hc
    exact (hpl this).trans this
  · intro j r hj
    by_cases hij : j = s.rows.length
    · subst hij
      simp only [if_true]
      rw [upR_other (fun g hg' e => (hv g hg').2 e.symm)]
      simp
    · rw [hrowOld j hij] at hj
      simp only [if_neg hij]
      have := h.rrow j r hj
      exact (hpl this).trans this
  · intro j r hj c hc
    by_cases hij : j = s.rows.length
    · subst hij
      simp only [if_true] at hc
      exact upR_same hc
    · rw [hrowOld j hij] at hj
      simp only [if_neg hij] at hc
      have := h.rrowp j r hj c hc
      exact (hpl this).trans this

theorem openIds_close {id : Nat} : openIds (s.setRow id none).rows = (openIds s.rows).filter (· ≠ id) := by
  unfold openIds PSt.setRow
  simp only [List.length_set, List.filter_filter]
  refine List.filter_congr fun j hj => ?_
  have hj' := List.mem_range.1 hj
  by_cases hij : id = j
  · subst hij; simp [hj']
  · rw [List.getElem?_set_ne hij]
    simp [Ne.symm hij]

/-- A row is closed. -/
theorem PoolAt.dropRow {W' : World} (h : PoolAt K enc W ρ L s) {id : Nat} (hmap : IMap.At W' L.mb ((openIds (s.setRow id none).rows).map fun id : Nat => ((id : Int), (.pointer (some ⟨L.rb id, 0, none⟩) : Value)))) (hg : W.grownBy W' (some L.mb)) :
    PoolAt K enc W' ρ L (s.setRow id none) := by
  have kk : KeepR ρ (some .map) W W' := fun c r hc hne hlt => hg.block c hlt (by intro e; cases e; rw [h.rmb] at hc; exact hne hc.symm)
  have hro : ∀ j r, (s.setRow id none).row j = some r → s.row j = some r := by
    intro j r hj
    by_cases hij : id = j
    · subst hij
      by_cases hlt : id < s.rows.length
      · rw [setRow_same hlt] at hj; simp at hj
      · exact absurd (by simpa [setRow_len] using row_lt hj) hlt
    · rwa [setRow_other hij] at hj
  refine ⟨?_, ?_, hmap, ?_, ?_, h.rg, h.rpb, h.rmb, h.rpage, fun j r hj => h.rrow j r (hro j r hj), fun j r hj => h.rrowp j r (hro j r hj)⟩
  · rw [setRow_len]; exact (kk _ _ h.rg (by simp) (lt_of_some h.pool)).trans h.pool
  · obtain ⟨cs, h1, h2⟩ := h.pages
    exact ⟨cs, (kk _ _ h.rpb (by simp) (lt_of_some h1)).trans h1, h2⟩
  · intro i hi
    exact own_same (h.page i hi) fun c hc => kk c _ (h.rpage i hi c hc) (by simp) (own_lt' (h.page i hi) hc)
  · intro j qs m hj
    obtain ⟨h1, h2⟩ := h.row j qs m (hro j _ hj)
    exact ⟨(kk _ _ (h.rrow j _ (hro j _ hj)) (by simp) (lt_of_some h1)).trans h1, own_same h2 fun c hc => kk c _ (h.rrowp j _ (hro j _ hj) c hc) (by simp) (own_lt' h2 hc)⟩

theorem setPage_setPage (i : Nat) (p q : List α × Int) : (s.setPage i p).setPage i q = s.setPage i q := by simp [PSt.setPage]
theorem setPage_size (i : Nat) (p : List α × Int) : (s.setPage i p).size = s.size := rfl
theorem setPage_row (i : Nat) (p : List α × Int) (id : Nat) : (s.setPage i p).row id = s.row id := rfl

/-- A page taken: a list of its own and the count 1. -/
theorem PoolAt.taken {W1 : World} (h : PoolAt K enc W ρ L s) {i : Nat} (hi : i < s.pages.length) (v : Value) (l : List α) (hb : Below W.heap.size W W1) (hown : W1.ownsRow W.heap.size K.elem 1 v l.length (l.map enc)) :
    PoolAt K enc ((W1.setCell ⟨L.pb, i * 2, none⟩ v).setCell ⟨L.pb, i * 2 + 1, none⟩ (.int .i64 1)) (upR ρ v (.page i)) { L with lv := fun j => if j = i then v else L.lv j } (s.setPage i (l, 1)) ∧
      Fr W ρ ((W1.setCell ⟨L.pb, i * 2, none⟩ v).setCell ⟨L.pb, i * 2 + 1, none⟩ (.int .i64 1)) (upR ρ v (.page i)) := by
  have hown0 : W1.ownsRow 0 K.elem 1 v l.length (l.map enc) := by
    refine ⟨hown.1, ?_⟩
    rcases hown.2 with h2 | ⟨g, cap, cur, e, _, r⟩
    · exact .inl h2
    · exact .inr ⟨g, cap, cur, e, Nat.zero_le _, r⟩
  have h1 := h.newPage hi v l (keepR_below hb) hown0 (fun g hg => .inr (hown.lt g hg).1) hb.size
  have h2 := h1.count (i := i) (by rw [setPage_len]; exact hi) 1
  rw [setPage_setPage, setPage_lst_same hi] at h2
  refine ⟨h2, ?_⟩
  have f1 : Fr W ρ W1 (upR ρ v (.page i)) := ⟨hb.os, hb.tape, hb.output, hb.size, fun k hk hr => ⟨hb.block k hk, by rw [upR_other (fun g hg e => by subst e; have := (hown.lt _ hg).1; omega)]; exact hr⟩⟩
  have hpb : upR ρ v (.page i) L.pb ≠ none := by have := h1.rpb; rw [this]; simp
  exact f1.trans ((Fr.setCell _ _ hpb).trans (Fr.setCell _ _ hpb))
end
end Go.Proofs.Ytackjeckafoojaa.Kv
