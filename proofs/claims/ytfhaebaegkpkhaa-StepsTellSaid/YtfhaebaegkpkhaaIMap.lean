/- Maps with int keys, whatever the elements: the entries as a list; what a look-up, a store, a delete make of it. -/
import Derived.WalkKit
import Derived.Maps.Keyed
set_option linter.unusedVariables false
set_option linter.unusedSimpArgs false
namespace Go.Proofs.Ytfhaebaegkpkhaa.IMap
open Go Go.RowKit

/-- The value behind the first key k, and its place. -/
def findF : List (Int × Value) → Int → Nat → Option (Nat × Value)
  | [], _, _ => none
  | p :: f, k, i => if k = p.1 then some (i, p.2) else findF f k (i + 1)

def Entries (es : List MapEntry) (f : List (Int × Value)) : Prop := es.map (fun e => (e.key, e.val)) = f.map fun p => ((.int .i64 p.1 : Value), p.2)

theorem findNow_eq {es : List MapEntry} {f : List (Int × Value)} (h : Entries es f) (q : IntKind) (k : Int) (i : Nat) : Instr.findNow (.int q) (.int .i64 k) es i = some (findF f k i) := by
  induction es generalizing f i with
  | nil =>
    cases f with
    | nil => rfl
    | cons p f => simp [Entries] at h
  | cons e es ih =>
    cases f with
    | nil => simp [Entries] at h
    | cons p f =>
      simp only [Entries, List.map_cons, List.cons.injEq, Prod.mk.injEq] at h
      obtain ⟨⟨hk, hv⟩, ht⟩ := h
      simp only [Instr.findNow, hk, Instr.sameNow, if_true, findF]
      by_cases hkp : k = p.1
      · subst hkp; simp [hv]
      · have : (k == p.1) = false := by simpa using hkp
        rw [this, if_neg hkp]
        exact ih ht (i + 1)

/-- Block mb is a map with these entries. -/
def At (W : World) (mb : Nat) (f : List (Int × Value)) : Prop := ∃ es clock, W.heap[mb]? = some (.map es clock) ∧ Entries es.toList f

theorem At.same {W W' : World} {mb : Nat} {f : List (Int × Value)} (h : At W mb f) (e : W'.heap[mb]? = W.heap[mb]?) : At W' mb f := by
  obtain ⟨es, clock, hb, hf⟩ := h
  exact ⟨es, clock, e.trans hb, hf⟩

variable {P : Program}

theorem run_check (w : World) (em : Bool) (K : TypeId) (hK : P.underlying K = some (.int .i64)) (k : Int) (n : Nat) : (Instr.checkKey em (n + 1) K (.int .i64 k)).run P w = .ok () w := by
  simp [Instr.checkKey, run_underlying hK]
theorem run_find (w : World) (K : TypeId) (hK : P.underlying K = some (.int .i64)) {es : List MapEntry} {f : List (Int × Value)} (h : Entries es f) (k : Int) : (Instr.findKey K (.int .i64 k) es).run P w = .ok (findF f k 0) w := by
  simp [Instr.findKey, run_underlying hK, findNow_eq h]

theorem run_lookup (w : World) (T K E : TypeId) (z : Value) (hT : P.underlying T = some (.map K E)) (hK : P.underlying K = some (.int .i64)) (hz : (zeroValue E).run P w = .ok z w) {mb : Nat} {f : List (Int × Value)} (h : At w mb f) (k : Int) :
    (Instr.lookup T (.map (some mb)) (.int .i64 k) true).run P w = .ok (.tuple #[((findF f k 0).map (·.2)).getD z, .bool (findF f k 0).isSome]) w := by
  obtain ⟨es, clock, hb, hf⟩ := h
  have hfd := run_find (P := P) w K hK hf k
  simp only [Instr.lookup, Sem.run_bind, run_underlying hT, Result.andThen_ok, MapKept.run_getObj_map hb, Sem.run_pure, run_check w _ K hK k 9999, hfd]
  cases h : findF f k 0 with
  | none => simp [hz]
  | some p => simp

theorem run_lookup1 (w : World) (T K E : TypeId) (z : Value) (hT : P.underlying T = some (.map K E)) (hK : P.underlying K = some (.int .i64)) (hz : (zeroValue E).run P w = .ok z w) {mb : Nat} {f : List (Int × Value)} (h : At w mb f) (k : Int) :
    (Instr.lookup T (.map (some mb)) (.int .i64 k) false).run P w = .ok (((findF f k 0).map (·.2)).getD z) w := by
  obtain ⟨es, clock, hb, hf⟩ := h
  have hfd := run_find (P := P) w K hK hf k
  simp only [Instr.lookup, Sem.run_bind, run_underlying hT, Result.andThen_ok, MapKept.run_getObj_map hb, Sem.run_pure, run_check w _ K hK k 9999, hfd]
  cases h : findF f k 0 with
  | none => simp [hz]
  | some p => simp
/-- The world behind a turn of block mb. -/
def put (w : World) (mb : Nat) (o : Obj) : World := { w with heap := w.heap.setIfInBounds mb o }
theorem put_at {w : World} {mb : Nat} {o0 o : Obj} (h : w.heap[mb]? = some o0) : (put w mb o).heap[mb]? = some o := by
  have := (Array.getElem?_eq_some_iff.1 h).1
  simp [put, Array.getElem?_setIfInBounds, this]
theorem put_other {w : World} {mb : Nat} {o : Obj} {b : Nat} (h : b ≠ mb) : (put w mb o).heap[b]? = w.heap[b]? := by
  simp [put, Array.getElem?_setIfInBounds, Ne.symm h]
theorem put_size (w : World) (mb : Nat) (o : Obj) : (put w mb o).heap.size = w.heap.size := by simp [put]
theorem put_grown (w : World) (mb : Nat) (o : Obj) : w.grownBy (put w mb o) (some mb) :=
  ⟨rfl, rfl, rfl, by simp [put], fun k _ hk => put_other (fun e => hk (by rw [e]))⟩

theorem findF_none {f : List (Int × Value)} {k : Int} {i : Nat} : findF f k i = none ↔ ∀ p ∈ f, p.1 ≠ k := by
  induction f generalizing i with
  | nil => simp [findF]
  | cons p f ih =>
    simp only [findF]
    split
    · rename_i h; simp [h]
    · rename_i h
      rw [ih]
      simp only [List.mem_cons, forall_eq_or_imp]
      exact ⟨fun x => ⟨fun e => h e.symm, x⟩, fun x => x.2⟩

/-- The only entry of a key. -/
theorem findF_one {f : List (Int × Value)} {k : Int} {v : Value} (h1 : (k, v) ∈ f) (h2 : ∀ p ∈ f, p.1 = k → p.2 = v) (i : Nat) : ((findF f k i).map (·.2)) = some v := by
  induction f generalizing i with
  | nil => cases h1
  | cons p f ih =>
    simp only [findF]
    split
    · rename_i h
      simp [h2 p (List.mem_cons_self ..) h.symm]
    · rename_i h
      refine ih ?_ (fun q hq => h2 q (List.mem_cons_of_mem _ hq)) _
      rcases List.mem_cons.1 h1 with rfl | h1
      · exact absurd rfl h
      · exact h1
/-- A store of a new key. -/
theorem run_update_new (w : World) (T K E : TypeId) (hT : P.underlying T = some (.map K E)) (hK : P.underlying K = some (.int .i64)) {mb : Nat} {f : List (Int × Value)} (h : At w mb f) (k : Int) (v : Value) (hnew : ∀ p ∈ f, p.1 ≠ k) :
    ∃ w', (Instr.mapUpdate T (.map (some mb)) (.int .i64 k) v).run P w = .ok () w' ∧ At w' mb (f ++ [(k, v)]) ∧ w.grownBy w' (some mb) ∧ w'.heap.size = w.heap.size := by
  obtain ⟨es, clock, hb, hf⟩ := h
  have hfd := run_find (P := P) w K hK hf k
  rw [findF_none.2 hnew] at hfd
  refine ⟨put w mb (.map (es.push { key := .int .i64 k, val := v, born := clock }) (clock + 1)), ?_, ⟨_, _, put_at hb, ?_⟩, put_grown _ _ _, put_size _ _ _⟩
  · simp only [Instr.mapUpdate, Sem.run_bind, run_underlying hT, Result.andThen_ok, MapKept.run_getObj_map hb, run_check w _ K hK k 9999, hfd]
    rw [MapKept.run_setObj_map _ hb]
    rfl
  · simp [Entries] at hf ⊢
    rw [hf]

theorem findF_some {f : List (Int × Value)} {k : Int} {i j : Nat} {v : Value} (h : findF f k i = some (j, v)) : i ≤ j ∧ f[j - i]? = some (k, v) ∧ ∀ m, m < j - i → ∀ p, f[m]? = some p → p.1 ≠ k := by
  induction f generalizing i with
  | nil => simp [findF] at h
  | cons p f ih =>
    simp only [findF] at h
    split at h
    · rename_i hk
      simp at h
      obtain ⟨rfl, rfl⟩ := h
      refine ⟨Nat.le_refl _, by simp [hk], fun m hm => by omega⟩
    · rename_i hk
      obtain ⟨h1, h2, h3⟩ := ih h
      refine ⟨by omega, ?_, ?_⟩
      · have : j - i = (j - (i + 1)) + 1 := by omega
        rw [this]; simpa using h2
      · intro m hm q hq
        cases m with
        | zero => simp at hq; subst hq; exact fun e => hk e.symm
        | succ m => exact h3 m (by omega) q (by simpa using hq)

theorem entries_erase {es : List MapEntry} {f : List (Int × Value)} (h : Entries es f) (j : Nat) : Entries (es.eraseIdx j) (f.eraseIdx j) := by
  unfold Entries at h ⊢
  have key : ∀ {α β : Type} (g : α → β) (l : List α) (j : Nat), (l.eraseIdx j).map g = (l.map g).eraseIdx j := by
    intro α β g l
    induction l with
    | nil => intro j; rfl
    | cons a l ih =>
      intro j
      cases j with
      | zero => rfl
      | succ j => simp [List.eraseIdx, ih]
  rw [key, key, h]

/-- A delete. -/
theorem run_delete (w : World) (T K E ty : TypeId) (hT : P.underlying T = some (.map K E)) (hK : P.underlying K = some (.int .i64)) {mb : Nat} {f : List (Int × Value)} (h : At w mb f) (k : Int) {j : Nat} {v : Value} (hj : findF f k 0 = some (j, v)) :
    ∃ w', (Builtin.delete_ #[T, K] ty #[.map (some mb), .int .i64 k]).run P w = .ok (.tuple #[]) w' ∧ At w' mb (f.eraseIdx j) ∧ w.grownBy w' (some mb) ∧ w'.heap.size = w.heap.size := by
  obtain ⟨es, clock, hb, hf⟩ := h
  have hfd := run_find (P := P) w K hK hf k
  rw [hj] at hfd
  refine ⟨put w mb (.map (es.eraseIdxIfInBounds j) clock), ?_, ⟨_, _, put_at hb, ?_⟩, put_grown _ _ _, put_size _ _ _⟩
  · simp [Builtin.delete_, run_underlying hT, MapKept.run_getObj_map hb, run_check w _ K hK k 9999, hfd, MapKept.run_setObj_map _ hb]
    rfl
  · have : (es.eraseIdxIfInBounds j).toList = es.toList.eraseIdx j := by simp
    rw [this]
    exact entries_erase hf j
end Go.Proofs.Ytfhaebaegkpkhaa.IMap
