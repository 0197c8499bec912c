/- Three byte literals, laid and converted in whatever order. -/
import Derived.Test.YtplcjgpmainbnaaDoorMkA
import Derived.Test.YtplcjgpmainbnaaDoorQTail
import Derived.Great.BuildSlice
set_option linter.unusedVariables false
set_option linter.unusedSimpArgs false
namespace Go.Proofs.YtplcjgpmainbnaaDoor.MkW
open Go.RowKit OwnS ShaW QTail
theorem run_build_byte (w : World) (u : Int) : (Instr.buildSlice 28 1 #[(0, .int .u8 u)]).run Tryd.prog w = .ok (.slice (some ⟨w.heap.size, 0, none⟩) 1 1) (w.alloc (.cells #[.int .u8 u] 5)) := by
  have hu := Tryd.underlying28
  have hi : (Tryd.prog.info? 5).map (fun i => (i.zero, i.size)) = some (some (.int .u8 0), 1) := by kernel_rfl
  cases hq : Tryd.prog.info? 5 with
  | none => rw [hq] at hi; cases hi
  | some i =>
    rw [hq] at hi
    simp only [Option.map_some, Option.some.injEq, Prod.mk.injEq] at hi
    refine run_buildSlice w 28 5 1 _ _ i _ hu hq hi.1 (by rw [hi.2]; omega) (by rw [hi.2]; omega) ?_
    rw [hi.2]
    have := Great.fill_whole (s := 1) (by omega) [Value.int .u8 u] ((Array.range (1 * 1)).map ((Value.int .u8 0).cells[· % (Value.int .u8 0).cells.size]!)) (fun v hv => by
      rw [List.mem_singleton] at hv
      subst hv
      rfl) (by simp)
    simpa [Value.cells] using this
/-- A block's cells, whatever is marked. -/
def ByteAt (w : World) (g : Nat) (u : Int) : Prop := ∃ fr, w.heap[g]? = some (.cells #[.int .u8 u] 5 fr)
theorem heap_freeze (w : World) (g n : Nat) {C : Array Value} {t : TypeId} {fr : Nat × Nat} (h : w.heap[g]? = some (.cells C t fr)) (k : Nat) :
    (k ≠ g → (w.freeze ⟨g, n, none⟩ 1).heap[k]? = w.heap[k]?) ∧ ∃ fr', (w.freeze ⟨g, n, none⟩ 1).heap[g]? = some (.cells C t fr') := by
  obtain ⟨hlt, hg⟩ := Array.getElem?_eq_some_iff.1 h
  constructor
  · intro hk
    show (w.heap.modify g _)[k]? = _
    simp [Array.getElem?_modify, Ne.symm hk]
  · show ∃ fr', (w.heap.modify g _)[g]? = _
    simp only [Array.getElem?_modify, if_true, h, Option.map_some]
    exact ⟨_, rfl⟩
theorem run_convert_byte (w : World) (g : Nat) (u : Int) (h : ByteAt w g u) : (convert 28 28 (.slice (some ⟨g, 0, none⟩) 1 1)).run Tryd.prog w = .ok (.slice (some ⟨g, 0, none⟩) 1 1) (w.freeze ⟨g, 1, none⟩ 1) := by
  obtain ⟨fr, h⟩ := h
  have hsh : w.shape? g = some (5, 1) := by unfold World.shape?; rw [h]; rfl
  unfold convert
  have hu := Tryd.underlying28
  have hv := Tryd.underlying5
  simp [Sem.run_bind, run_underlying hu, run_underlying hv, markStringish, hsh]
/-- How far literal k has come: nothing, laid, converted. -/
def LitAt (B : Nat) (a : Act) (w : World) (k p : Nat) : Prop :=
  1 ≤ p → ∃ g, B ≤ g ∧ g < w.heap.size ∧ ByteAt w g (97 + (k : Int)) ∧ a.tmps[26 + 2 * k]? = some (.slice (some ⟨g, 0, none⟩) 1 1) ∧ (2 ≤ p → a.tmps[27 + 2 * k]? = some (.slice (some ⟨g, 0, none⟩) 1 1))
structure LitInv (w0 : World) (a0 : Act) (a : Act) (w : World) (p : Nat → Nat) : Prop where
  below : Below w0.heap.size w0 w
  size : a.tmps.size = 63
  defers : a.defers = []
  rest : ∀ d, d < 26 ∨ 31 < d → a.tmps[d]? = a0.tmps[d]?
  lits : ∀ k, k < 3 → LitAt w0.heap.size a w k (p k)
def bump (p : Nat → Nat) (k : Nat) : Nat → Nat := fun j => if j = k then p k + 1 else p j
theorem put_size (a : Act) (d : Nat) (v : Value) : (a.put (some d) v).tmps.size = a.tmps.size := by simp [Act.put]
theorem put_at (a : Act) (d e : Nat) (v : Value) : (a.put (some d) v).tmps[e]? = if d = e ∧ d < a.tmps.size then some v else a.tmps[e]? := by
  simp only [Act.put, Array.getElem?_setIfInBounds]
  by_cases h : d = e
  · subst h
    by_cases hl : d < a.tmps.size
    · simp [hl]
    · simp [hl] <;> exact Array.getElem?_eq_none (by omega)
  · simp [h]
theorem lit_lay {w0 : World} {a0 a : Act} {w : World} {p : Nat → Nat} (h : LitInv w0 a0 a w p) (k : Nat) (hk : k < 3) (hp : p k = 0) :
    LitInv w0 a0 (a.put (some (26 + 2 * k)) (.slice (some ⟨w.heap.size, 0, none⟩) 1 1)) (w.alloc (.cells #[.int .u8 (97 + (k : Int))] 5)) (bump p k) := by
  refine ⟨h.below.alloc h.below.size _, by rw [put_size]; exact h.size, h.defers, fun d hd => ?_, fun j hj hpj => ?_⟩
  · rw [put_at, if_neg (by omega)]; exact h.rest d hd
  · by_cases hjk : j = k
    · subst hjk
      refine ⟨w.heap.size, h.below.size, by simp, ⟨_, heap_alloc_new w _⟩, by rw [put_at, if_pos ⟨rfl, by rw [h.size]; omega⟩], fun h2 => ?_⟩
      unfold bump at h2
      rw [if_pos rfl] at h2
      omega
    · unfold bump at *
      rw [if_neg hjk] at hpj ⊢
      obtain ⟨g, h1, h2, ⟨fr, h3⟩, h4, h5⟩ := h.lits j hj hpj
      refine ⟨g, h1, by simp; omega, ⟨fr, by rw [Below.heap_alloc _ _ _ h2]; exact h3⟩, by rw [put_at, if_neg (by omega)]; exact h4, fun h6 => by rw [put_at, if_neg (by omega)]; exact h5 h6⟩
theorem lit_conv {w0 : World} {a0 a : Act} {w : World} {p : Nat → Nat} (h : LitInv w0 a0 a w p) (k : Nat) (hk : k < 3) (hp : p k = 1) : ∃ g, a.eval (.tmp (26 + 2 * k)) = .slice (some ⟨g, 0, none⟩) 1 1 ∧ ByteAt w g (97 + (k : Int)) ∧
    LitInv w0 a0 (a.put (some (27 + 2 * k)) (.slice (some ⟨g, 0, none⟩) 1 1)) (w.freeze ⟨g, 1, none⟩ 1) (bump p k) := by
  obtain ⟨g, h1, h2, ⟨fr, h3⟩, h4, -⟩ := h.lits k hk (by omega)
  have hf := heap_freeze w g 1 h3
  have hsz : (w.freeze ⟨g, 1, none⟩ 1).heap.size = w.heap.size := by show (w.heap.modify g _).size = _; simp
  refine ⟨g, ?_, ⟨fr, h3⟩, ?_, by rw [put_size]; exact h.size, h.defers, fun d hd => ?_, fun j hj hpj => ?_⟩
  · show a.tmps.getD (26 + 2 * k) undef = _
    simp [Array.getD_eq_getD_getElem?, h4]
  · exact ⟨h.below.os, h.below.tape, h.below.output, by rw [hsz]; exact h.below.size, fun b hb => ((hf b).1 (by omega)).trans (h.below.block b hb)⟩
  · rw [put_at, if_neg (by omega)]; exact h.rest d hd
  · have hb : ∀ g' u, ByteAt w g' u → ByteAt (w.freeze ⟨g, 1, none⟩ 1) g' u := fun g' u ⟨fr', h'⟩ => by
      by_cases hg : g' = g
      · subst hg; exact (heap_freeze w g' 1 h' g').2
      · exact ⟨fr', ((hf g').1 hg).trans h'⟩
    by_cases hjk : j = k
    · subst hjk
      exact ⟨g, h1, by rw [hsz]; exact h2, hb _ _ ⟨fr, h3⟩, by rw [put_at, if_neg (by omega)]; exact h4, fun _ => by rw [put_at, if_pos ⟨rfl, by rw [h.size]; omega⟩]⟩
    · unfold bump at *
      rw [if_neg hjk] at hpj ⊢
      obtain ⟨g', k1, k2, k3, k4, k5⟩ := h.lits j hj hpj
      exact ⟨g', k1, by rw [hsz]; exact k2, hb _ _ k3, by rw [put_at, if_neg (by omega)]; exact k4, fun h6 => by rw [put_at, if_neg (by omega)]; exact k5 h6⟩
def slB (g : Nat) : Value := .slice (some ⟨g, 0, none⟩) 1 1
theorem tm_get {T U : Array Value} {s0 s1 s2 s3 s4 s5 : Value} (h0 : U.size = 63) (hr : ∀ d, d < 26 ∨ 31 < d → T[d]? = U[d]?) (c0 : T[26]? = some s0) (c1 : T[27]? = some s1) (c2 : T[28]? = some s2) (c3 : T[29]? = some s3) (c4 : T[30]? = some s4) (c5 : T[31]? = some s5) :
    T = (((((U.setIfInBounds 26 s0).setIfInBounds 27 s1).setIfInBounds 28 s2).setIfInBounds 29 s3).setIfInBounds 30 s4).setIfInBounds 31 s5 := by
  refine Array.ext_getElem? fun d => ?_
  rw [Array.getElem?_setIfInBounds]
  split
  · rename_i e; subst e; rw [c5, if_pos (by simp; omega)]
  rw [Array.getElem?_setIfInBounds]
  split
  · rename_i e; subst e; rw [c4, if_pos (by simp; omega)]
  rw [Array.getElem?_setIfInBounds]
  split
  · rename_i e; subst e; rw [c3, if_pos (by simp; omega)]
  rw [Array.getElem?_setIfInBounds]
  split
  · rename_i e; subst e; rw [c2, if_pos (by simp; omega)]
  rw [Array.getElem?_setIfInBounds]
  split
  · rename_i e; subst e; rw [c1, if_pos (by simp; omega)]
  rw [Array.getElem?_setIfInBounds]
  split
  · rename_i e; subst e; rw [c0, if_pos (by omega)]
  exact hr d (by omega)
theorem lits_done {w0 : World} {a0 a : Act} {w : World} {p : Nat → Nat} (h : LitInv w0 a0 a w p) (hp : ∀ k, k < 3 → p k = 2) (h0 : a0.tmps.size = 63) : ∃ g0 g1 g2, ByteAt w g0 97 ∧ ByteAt w g1 98 ∧ ByteAt w g2 99 ∧
    a = { tmps := (((((a0.tmps.setIfInBounds 26 (slB g0)).setIfInBounds 27 (slB g0)).setIfInBounds 28 (slB g1)).setIfInBounds 29 (slB g1)).setIfInBounds 30 (slB g2)).setIfInBounds 31 (slB g2), defers := [] } := by
  have hp0 := hp 0 (by omega)
  have hp1 := hp 1 (by omega)
  have hp2 := hp 2 (by omega)
  have l0 := h.lits 0 (by omega)
  have l1 := h.lits 1 (by omega)
  have l2 := h.lits 2 (by omega)
  rw [hp0] at l0
  rw [hp1] at l1
  rw [hp2] at l2
  obtain ⟨g0, -, -, b0, c0, d0⟩ := l0 (by omega)
  obtain ⟨g1, -, -, b1, c1, d1⟩ := l1 (by omega)
  obtain ⟨g2, -, -, b2, c2, d2⟩ := l2 (by omega)
  refine ⟨g0, g1, g2, b0, b1, b2, ?_⟩
  have hT := tm_get (T := a.tmps) (U := a0.tmps) h0 h.rest c0 (d0 (by omega)) c1 (d1 (by omega)) c2 (d2 (by omega))
  have hd := h.defers
  cases a with
  | mk T df =>
    simp only at hT hd
    rw [hd]
    exact congrArg (fun T => (Act.mk T [] : Act)) hT
def litOf (p : Nat → Nat) : List Nat := (if p 0 < 2 then [p 0] else []) ++ (if p 1 < 2 then [2 + p 1] else []) ++ (if p 2 < 2 then [4 + p 2] else [])
theorem mem_lit {p : Nat → Nat} {i : Nat} (h : i ∈ litOf p) : ∃ k, k < 3 ∧ p k < 2 ∧ i = 2 * k + p k := by
  unfold litOf at h
  simp only [List.mem_append] at h
  rcases h with (h | h) | h
  · split at h
    · exact ⟨0, by omega, by assumption, by simpa using h⟩
    · cases h
  · split at h
    · exact ⟨1, by omega, by assumption, by simpa using h⟩
    · cases h
  · split at h
    · exact ⟨2, by omega, by assumption, by simpa using h⟩
    · cases h
/-- The list of what has come up, in the example's last region: three loads, and the literals so far. -/
def L5' (i0 i1 i2 : Nat) : Array Bool := #[decide (1 ≤ i0), decide (2 ≤ i0), decide (1 ≤ i1), decide (2 ≤ i1), decide (1 ≤ i2), decide (2 ≤ i2), false, false, true, true, false, true, false, false, false, false, false, false, false, false, false, false, false, false, false, false, false, false, false, false, false, false, false, false, false, false, false, false]
def L5 (p : Nat → Nat) : Array Bool := L5' (p 0) (p 1) (p 2)
theorem L5_set (p : Nat → Nat) (k : Nat) (hk : k < 3) (hp : p k < 2) : (L5 p).setIfInBounds (2 * k + p k) true = L5 (bump p k) := by
  have hk' : k = 0 ∨ k = 1 ∨ k = 2 := by omega
  rcases hk' with rfl | rfl | rfl
  · have : p 0 = 0 ∨ p 0 = 1 := by omega
    rcases this with h | h <;> simp [L5, L5', bump, h]
  · have : p 1 = 0 ∨ p 1 = 1 := by omega
    rcases this with h | h <;> simp [L5, L5', bump, h]
  · have : p 2 = 0 ∨ p 2 = 1 := by omega
    rcases this with h | h <;> simp [L5, L5', bump, h]
def lit' (i0 i1 i2 : Nat) : List Nat := (if i0 < 2 then [i0] else []) ++ (if i1 < 2 then [2 + i1] else []) ++ (if i2 < 2 then [4 + i2] else [])
def litsB (ops : Array Oper) : Bool := (List.range 3).all fun i0 => (List.range 3).all fun i1 => (List.range 3).all fun i2 => !(decide (i0 + i1 + i2 < 6)) || decide (Region.ready .any ops (L5' i0 i1 i2) = lit' i0 i1 i2)
theorem litsB_ready {ops : Array Oper} (h : litsB ops = true) : ∀ p : Nat → Nat, (∀ k, k < 3 → p k ≤ 2) → p 0 + p 1 + p 2 < 6 → Region.ready .any ops (L5 p) = litOf p := by
  intro p hp hs
  have h1 := List.all_eq_true.1 h (p 0) (List.mem_range.2 (by have := hp 0 (by omega); omega))
  have h2 := List.all_eq_true.1 h1 (p 1) (List.mem_range.2 (by have := hp 1 (by omega); omega))
  have h3 := List.all_eq_true.1 h2 (p 2) (List.mem_range.2 (by have := hp 2 (by omega); omega))
  simp only [hs, decide_true, Bool.not_true, Bool.false_or, decide_eq_true_eq] at h3
  exact h3
/-- All three, in whatever order; then on. -/
theorem lits_any {ops : Array Oper} {K : Act → World → Prop} {w0 : World} {a0 : Act} (L : (Nat → Nat) → Array Bool)
    (hb : ∀ k, k < 3 → ∃ o, ops[2 * k]? = some o ∧ o.guard = none ∧ o.op = .buildSlice 28 1 #[(0, .const (.int .u8 (97 + (k : Int))))] ∧ o.dst = some (26 + 2 * k))
    (hc : ∀ k, k < 3 → ∃ o, ops[2 * k + 1]? = some o ∧ o.guard = none ∧ o.op = .convert 28 28 (.tmp (26 + 2 * k)) ∧ o.dst = some (27 + 2 * k))
    (hset : ∀ p k, k < 3 → p k < 2 → (L p).setIfInBounds (2 * k + p k) true = L (bump p k))
    (hready : ∀ p, (∀ k, k < 3 → p k ≤ 2) → p 0 + p 1 + p 2 < 6 → Region.ready .any ops (L p) = litOf p) (f : Nat)
    (hend : ∀ a w p, LitInv w0 a0 a w p → p 0 = 2 → p 1 = 2 → p 2 = 2 → QTail.wpAnyS Tryd.prog .any ops (OnlyNormal K) (Below w0.heap.size w0) f (L p) a w) :
    ∀ (m : Nat) (p : Nat → Nat) (a : Act) (w : World), (∀ k, k < 3 → p k ≤ 2) → p 0 + p 1 + p 2 + m = 6 → LitInv w0 a0 a w p → QTail.wpAnyS Tryd.prog .any ops (OnlyNormal K) (Below w0.heap.size w0) (m + f) (L p) a w := by
  intro m
  induction m with
  | zero =>
    intro p a w hp hs h
    rw [Nat.zero_add]
    have h0 := hp 0 (by omega)
    have h1 := hp 1 (by omega)
    have h2 := hp 2 (by omega)
    exact hend a w p h (by omega) (by omega) (by omega)
  | succ m ih =>
    intro p a w hp hs h
    rw [show m + 1 + f = (m + f) + 1 by omega]
    have hr := hready p hp (by omega)
    refine ⟨fun h0 => ?_, fun i hi => ?_⟩
    · exfalso
      rw [hr] at h0
      unfold litOf at h0
      simp only [List.append_eq_nil_iff] at h0
      have h1 := h0.1.1
      have h2 := h0.1.2
      have h3 := h0.2
      have q0 := hp 0 (by omega)
      have q1 := hp 1 (by omega)
      have q2 := hp 2 (by omega)
      split at h1
      · cases h1
      · split at h2
        · cases h2
        · split at h3
          · cases h3
          · omega
    · rw [hr] at hi
      obtain ⟨k, hk, hpk, rfl⟩ := mem_lit hi
      have hbump : ∀ j, j < 3 → bump p k j ≤ 2 := fun j hj => by
        unfold bump
        split
        · omega
        · exact hp j hj
      have hsum : bump p k 0 + bump p k 1 + bump p k 2 + m = 6 := by
        have : k = 0 ∨ k = 1 ∨ k = 2 := by omega
        rcases this with rfl | rfl | rfl <;> simp [bump] <;> omega
      have hcase : p k = 0 ∨ p k = 1 := by omega
      rcases hcase with hz | hz
      · rw [hz, Nat.add_zero]
        obtain ⟨o, hoi, hgd, hop, hdst⟩ := hb k hk
        have hw : Region.wanted o (yielded ops a.tmps) = true := by simp [Region.wanted, hgd]
        unfold wpOp
        simp only [hoi, hw, if_true]
        refine .inl ?_
        unfold Oper.wp execOp
        have hx := lit_lay h k hk hz
        simp only [hop, List.map_toArray, List.map_cons, List.map_nil, Act.eval, Sem.run_bind, run_build_byte, Result.andThen_ok, Sem.run_pure, Oper.upon]
        rw [hdst]
        refine ⟨fun _ => hx.below, ?_⟩
        have hst := hset p k hk hpk
        rw [hz, Nat.add_zero] at hst
        rw [hst]
        exact ih _ _ _ hbump hsum hx
      · rw [hz]
        obtain ⟨o, hoi, hgd, hop, hdst⟩ := hc k hk
        have hw : Region.wanted o (yielded ops a.tmps) = true := by simp [Region.wanted, hgd]
        unfold wpOp
        simp only [hoi, hw, if_true]
        refine .inl ?_
        unfold Oper.wp execOp
        obtain ⟨g, e1, e2, hx⟩ := lit_conv h k hk hz
        simp only [hop, e1, Sem.run_bind, run_convert_byte w g _ e2, Result.andThen_ok, Sem.run_pure, Oper.upon]
        rw [hdst]
        refine ⟨fun _ => hx.below, ?_⟩
        have hst := hset p k hk hpk
        rw [hz] at hst
        rw [hst]
        exact ih _ _ _ hbump hsum hx
end Go.Proofs.YtplcjgpmainbnaaDoor.MkW
