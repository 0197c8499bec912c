/- append, onto what is one's own, in a walk; slices cut; which blocks a call keeps. -/
import Derived.Test.YtplcjgpmainbnaaDoorOwn
import Derived.OwnWalk
set_option linter.unusedVariables false
set_option linter.unusedSimpArgs false
namespace Go.Proofs.YtplcjgpmainbnaaDoor.OwnS
open Go Go.RowKit
/-- What the table says of an element's type. -/
def ElemInfo (P : Program) (e : TypeId) (z : Value) (size bytes : Nat) : Prop := ∃ i, P.info? e = some i ∧ i.zero = some z ∧ i.size = size ∧ i.bytes = bytes ∧ z.cells.size = size ∧ z.cells.toList.all (·.oneCell') = true
theorem elemInfo {P : Program} {e : TypeId} {z : Value} {size bytes : Nat} (h : (P.info? e).map (fun i => (i.zero, i.size, i.bytes)) = some (some z, size, bytes)) (hz : z.cells.size = size) (h1 : z.cells.toList.all (·.oneCell') = true) : ElemInfo P e z size bytes := by
  obtain ⟨i, a, b, c, d⟩ := info_parts h
  exact ⟨i, a, b, c, d, hz, h1⟩
section
variable {P : Program} {w : World}
theorem wp_append {o : Oper} {a : Act} {K : Act → World → Prop} {Q : Exit → Act → World → Prop} (s x : Operand) (t tx : TypeId)
    (ho : o.op = .call { callee := .builtin .append, args := #[s, x], argTypes := #[t, tx] })
    (base : Nat) (e : TypeId) (z : Value) (size bytes : Nat) (ht : P.underlying t = some (.slice e)) (hi : ElemInfo P e z size bytes)
    (v : Value) (n : Nat) (xs : List Value) (hs : a.eval s = v) (hown : Owns w base size v n xs)
    (xv : Value) (m : Nat) (news : List Value) (hx : a.eval x = xv) (hsrc : Src P size tx xv m news w)
    (h63 : n + m ≤ maxLen) (hbytes : (n + m) * bytes ≤ 140737488355328) (hbase : base ≤ w.heap.size)
    (h : ∀ A c w', Owns w' base size (.slice A (n + m) c) (n + m) (xs ++ news) → w.grownBy w' v.ownBlock → ((Value.slice A (n + m) c).ownBlock = v.ownBlock ∨ (Value.slice A (n + m) c).ownBlock = some w.heap.size) → K (a.put o.dst (.slice A (n + m) c)) w') : o.wp P a w K Q := by
  obtain ⟨i, hi0, hz, hsize, hby, hzs, h1⟩ := hi
  obtain ⟨v', w', hr, h2, h3, h4, -⟩ := run_append (P := P) w base t tx o.type e i z size bytes ht hi0 hz hsize hby hzs (fun u hu => List.all_eq_true.1 h1 u hu) v n xs hown xv m news hsrc h63 hbytes hbase
  obtain ⟨A, c, rfl, -, -⟩ := h2.form
  unfold Oper.wp execOp
  simp only [ho, resolve, invoke, builtin, Sem.run_bind, Sem.run_pure, Result.andThen_ok, List.map_toArray, List.map_cons, List.map_nil, hs, hx, hr]
  exact h A c w' h2 h3 h4
theorem wpList_append {ops : Array Oper} {rest : List Oper} {o : Oper} {a : Act} {Q : Exit → Act → World → Prop} (hgd : o.guard = none) (s x : Operand) (t tx : TypeId)
    (ho : o.op = .call { callee := .builtin .append, args := #[s, x], argTypes := #[t, tx] })
    (base : Nat) (e : TypeId) (z : Value) (size bytes : Nat) (ht : P.underlying t = some (.slice e)) (hi : ElemInfo P e z size bytes)
    (v : Value) (n : Nat) (xs : List Value) (hs : a.eval s = v) (hown : Owns w base size v n xs)
    (xv : Value) (m : Nat) (news : List Value) (hx : a.eval x = xv) (hsrc : Src P size tx xv m news w)
    (h63 : n + m ≤ maxLen) (hbytes : (n + m) * bytes ≤ 140737488355328) (hbase : base ≤ w.heap.size)
    (h : ∀ A c w', Owns w' base size (.slice A (n + m) c) (n + m) (xs ++ news) → w.grownBy w' v.ownBlock → ((Value.slice A (n + m) c).ownBlock = v.ownBlock ∨ (Value.slice A (n + m) c).ownBlock = some w.heap.size) → wpList P ops Q rest (a.put o.dst (.slice A (n + m) c)) w') : wpList P ops Q (o :: rest) a w :=
  wpList_plain hgd fun _ hK => wp_append s x t tx ho base e z size bytes ht hi v n xs hs hown xv m news hx hsrc h63 hbytes hbase fun A c w' h2 h3 h4 => hK _ _ (h A c w' h2 h3 h4)
theorem step_append {ops : Array Oper} {o : Oper} {a : Act} {K : Act → World → Prop} {Q : Exit → Act → World → Prop} {E : Prop} (hgd : o.guard = none) (s x : Operand) (t tx : TypeId)
    (ho : o.op = .call { callee := .builtin .append, args := #[s, x], argTypes := #[t, tx] })
    (base : Nat) (e : TypeId) (z : Value) (size bytes : Nat) (ht : P.underlying t = some (.slice e)) (hi : ElemInfo P e z size bytes)
    (v : Value) (n : Nat) (xs : List Value) (hs : a.eval s = v) (hown : Owns w base size v n xs)
    (xv : Value) (m : Nat) (news : List Value) (hx : a.eval x = xv) (hsrc : Src P size tx xv m news w)
    (h63 : n + m ≤ maxLen) (hbytes : (n + m) * bytes ≤ 140737488355328) (hbase : base ≤ w.heap.size)
    (h : ∀ A c w', Owns w' base size (.slice A (n + m) c) (n + m) (xs ++ news) → w.grownBy w' v.ownBlock → ((Value.slice A (n + m) c).ownBlock = v.ownBlock ∨ (Value.slice A (n + m) c).ownBlock = some w.heap.size) → K (a.put o.dst (.slice A (n + m) c)) w') :
    if Region.wanted o (yielded ops a.tmps) = true then Oper.wp P o a w K Q else E := by
  have hw : Region.wanted o (yielded ops a.tmps) = true := by simp [Region.wanted, hgd]
  rw [if_pos hw]
  exact wp_append s x t tx ho base e z size bytes ht hi v n xs hs hown xv m news hx hsrc h63 hbytes hbase h
/-- One thing of one cell, boxed, as a source. -/
theorem src_one {t e : TypeId} (hk : P.underlying t = some (.slice e)) {g : Nat} {u : Value} {c : Nat} (hc : w.cell? ⟨g, 0, none⟩ = some u) (h1 : u.oneCell' = true) : Src P 1 t (.slice (some ⟨g, 0, none⟩) 1 c) 1 [u] w :=
  Src.ofSlice w hk ⟨g, 0, none⟩ 1 c [u] rfl (fun j x hj => by
    match j, hj with
    | 0, hj => injection hj with hj; subst hj; rw [add_lit]; exact hc) (fun x hx => by rw [List.mem_singleton] at hx; subst hx; exact h1)
end
section
variable {w w' : World} {base size : Nat} {n : Nat} {xs : List Value}
/-- x[k:]: the model keeps the old address where nothing is left of the capacity. -/
theorem Owns.cut {g o cap k : Nat} (h : Owns w base size (.slice (some ⟨g, o, none⟩) n cap) n xs) (hk : k ≤ n) (a : Addr) (ha : (cap = k ∧ a = ⟨g, o, none⟩) ∨ a = ⟨g, o + k * size, none⟩) : Owns w base size (.slice (some a) (n - k) (cap - k)) (n - k) (xs.drop (k * size)) := by
  have hlen : (xs.drop (k * size)).length = (n - k) * size := by rw [List.length_drop, h.1, Nat.sub_mul]
  refine ⟨hlen, ?_⟩
  rcases h.2 with ⟨h0, -⟩ | ⟨g', o', cap', h0, h1, h2, h3, h4, h5, h6⟩
  · cases h0
  · injection h0 with e1 e2 e3
    injection e1 with e1
    injection e1 with e1 e4
    subst e1 e3 e4
    rcases ha with ⟨rfl, rfl⟩ | rfl
    · have : n = cap := by omega
      subst this
      refine .inr ⟨g, o, _, rfl, h1, h2, by omega, by omega, ?_, ?_⟩
      · have : xs.drop (n * size) = [] := List.eq_nil_of_length_eq_zero (by rw [hlen]; simp)
        rw [this]
        intro j u hj
        simp at hj
      · intro j hj
        simp at hj
    · refine .inr ⟨g, _, _, rfl, h1, h2, by omega, by omega, rangeAt_drop h5, ?_⟩
      refine there_drop (there_mono h6 ?_)
      rw [Nat.sub_mul]
      have : k * size ≤ cap * size := Nat.mul_le_mul_right _ (by omega)
      omega
/-- x[:k]. -/
theorem Owns.takes {g o cap k c : Nat} (h : Owns w base size (.slice (some ⟨g, o, none⟩) n cap) n xs) (hk : k ≤ n) (hc : k ≤ c ∧ c ≤ cap) : Owns w base size (.slice (some ⟨g, o, none⟩) k c) k (xs.take (k * size)) := by
  refine ⟨by rw [List.length_take, h.1]; exact Nat.min_eq_left (Nat.mul_le_mul_right _ hk), ?_⟩
  rcases h.2 with ⟨h0, -⟩ | ⟨g', o', cap', h0, h1, h2, h3, h4, h5, h6⟩
  · cases h0
  · injection h0 with e1 e2 e3
    injection e1 with e1
    injection e1 with e1 e4
    subst e1 e3 e4
    exact .inr ⟨g, o, c, rfl, h1, h2, hc.1, by omega, rangeAt_take h5, there_mono h6 (Nat.mul_le_mul_right _ hc.2)⟩
end
theorem heap_setCells_ne (w : World) (g : Nat) : ∀ (o : Nat) (vs : List Value) {k : Nat}, k ≠ g → (w.setCells g o vs).heap[k]? = w.heap[k]? := by
  intro o vs
  induction vs generalizing o w with
  | nil => intro k _; rfl
  | cons v r ih => intro k hk; exact (ih (w.setCell ⟨g, o, none⟩ v) (o + 1) hk).trans (Below.heap_setCell _ _ _ _ hk)
/-- All blocks that were there, but for those of S, are as they were. -/
structure Keeps (w w' : World) (S : Nat → Prop) : Prop where
  os : w'.os = w.os
  tape : w'.tape = w.tape
  output : w'.output = w.output
  size : w.heap.size ≤ w'.heap.size
  block : ∀ k, k < w.heap.size → ¬ S k → w'.heap[k]? = w.heap[k]?
section
variable {w w1 w2 : World} {S T : Nat → Prop}
theorem Keeps.refl (w : World) (S : Nat → Prop) : Keeps w w S := ⟨rfl, rfl, rfl, Nat.le_refl _, fun _ _ _ => rfl⟩
theorem Keeps.trans (h : Keeps w w1 S) (k : Keeps w1 w2 T) (hT : ∀ b, T b → S b ∨ w.heap.size ≤ b) : Keeps w w2 S :=
  ⟨k.os.trans h.os, k.tape.trans h.tape, k.output.trans h.output, Nat.le_trans h.size k.size, fun b hb hS =>
    (k.block b (Nat.lt_of_lt_of_le hb h.size) (fun hTb => (hT b hTb).elim hS (fun h => by omega))).trans (h.block b hb hS)⟩
theorem Keeps.mono (h : Keeps w w1 S) (hS : ∀ b, b < w.heap.size → S b → T b) : Keeps w w1 T := ⟨h.os, h.tape, h.output, h.size, fun b hb hT => h.block b hb fun h => hT (hS b hb h)⟩
theorem Keeps.of_below {B : Nat} (h : Below B w w1) (hB : ∀ b, b < w.heap.size → B ≤ b → S b) : Keeps w w1 S := ⟨h.os, h.tape, h.output, h.size, fun b hb hS => h.block b (by
  rcases Nat.lt_or_ge b B with h1 | h1
  · exact h1
  · exact absurd (hB b hb h1) hS)⟩
theorem Keeps.new (h : Below w.heap.size w w1) : Keeps w w1 S := Keeps.of_below h fun b hb h => by omega
theorem Keeps.of_grown {row : Option Nat} (h : w.grownBy w1 row) (hr : ∀ b, row = some b → b < w.heap.size → S b) : Keeps w w1 S := ⟨h.os, h.tape, h.output, h.size, fun b hb hS => h.block b hb fun e => hS (hr b e.symm hb)⟩
theorem Keeps.setCell (h : Keeps w w1 S) {a : Addr} (ha : S a.block ∨ w.heap.size ≤ a.block) (u : Value) : Keeps w (w1.setCell a u) S :=
  ⟨h.os, h.tape, h.output, by simpa using h.size, fun b hb hS => (Below.heap_setCell _ _ _ _ (fun e => by subst e; rcases ha with ha | ha; exact hS ha; omega)).trans (h.block b hb hS)⟩
theorem Keeps.alloc (h : Keeps w w1 S) (o : Obj) : Keeps w (w1.alloc o) S :=
  ⟨h.os, h.tape, h.output, Nat.le_trans h.size (by simp), fun b hb hS => (Below.heap_alloc _ _ _ (Nat.lt_of_lt_of_le hb h.size)).trans (h.block b hb hS)⟩
theorem Keeps.drew (h : Keeps w w1 S) : Keeps w w1.drew S := ⟨h.os, h.tape, h.output, h.size, h.block⟩
theorem Keeps.drewN (h : Keeps w w1 S) (n : Nat) : Keeps w (w1.drewN n) S := ⟨h.os, h.tape, h.output, h.size, h.block⟩
theorem Keeps.below {B : Nat} (h : Keeps w w1 S) (hB : B ≤ w.heap.size) (hS : ∀ b, b < B → ¬ S b) : Below B w w1 := ⟨h.os, h.tape, h.output, h.size, fun b hb => h.block b (by omega) (hS b hb)⟩
theorem Keeps.cell (h : Keeps w w1 S) {p : Addr} {u : Value} (hp : w.cell? p = some u) (hS : ¬ S p.block) : w1.cell? p = some u := (World.cell?_of_block (h.block p.block (block_lt_of_cell hp) hS)).trans hp
end
end Go.Proofs.YtplcjgpmainbnaaDoor.OwnS
