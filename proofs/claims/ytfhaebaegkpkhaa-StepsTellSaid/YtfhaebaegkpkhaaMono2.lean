/- Regions that only add to memory: what is to be shown of an operation, by its kind. -/
import Derived.Test.YtfhaebaegkpkhaaMono
import Derived.BigCall
set_option linter.unusedVariables false
set_option linter.unusedSimpArgs false
namespace Go.Proofs.Ytfhaebaegkpkhaa.Mono
open Go Go.RowKit QTail
section
variable {P : Program} {l : List Oper} {a0 : Act} {A : (Nat → Value) → Act} {w0 : World} {Φ : List MPred} {i : Nat} {o : Oper}
/-- The premises that an operation may lean on. -/
def Pre (l : List Oper) (a0 : Act) (w0 : World) (Φ : List MPred) (i : Nat) (o : Oper) (us : Nat → Value) (w : World) : Prop :=
  Below w0.heap.size w0 w ∧ (∀ j, depB o j = true → (Φ.getD j .any).p w (us j)) ∧ (∀ j, undB l i j = true → us j = oldV l a0 j)
/-- An operation that has a value. -/
theorem obl_run (hg : o.guard = none) (h : ∀ us w, Pre l a0 w0 Φ i o us w → ∃ v w', (execOp (A us).eval o).run P w = .ok (.value v) w' ∧ (Φ.getD i .any).p w' v ∧ Below w.heap.size w w') : obl P l a0 A w0 Φ i o := fun us w hb hd hu => by
  obtain ⟨v, w', hr, hv, hb'⟩ := h us w ⟨hb, hd, hu⟩
  refine wpList_plain hg fun K hK => ?_
  unfold Oper.wp
  rw [hr, Oper.upon_value]
  exact hK _ _ ⟨rfl, v, rfl, hv, hb'⟩
/-- A value moved. -/
theorem obl_move {x : Operand} (hg : o.guard = none) (ho : o.op = .move x ∨ o.op = .assign x) (h : ∀ us w, Pre l a0 w0 Φ i o us w → (Φ.getD i .any).p w ((A us).eval x)) : obl P l a0 A w0 Φ i o :=
  obl_run hg fun us w hp => ⟨_, w, by rcases ho with ho | ho <;> (unfold execOp; simp only [ho]; rfl), h us w hp, Below.refl _ _⟩
/-- A load. -/
theorem obl_load {x : Operand} {ty : TypeId} (hg : o.guard = none) (ho : o.op = .load ty x) (h : ∀ us w, Pre l a0 w0 Φ i o us w → ∃ p v, (A us).eval x = .pointer (some p) ∧ (loadVar ty p).run P w = .ok v w ∧ (Φ.getD i .any).p w v) : obl P l a0 A w0 Φ i o :=
  obl_run hg fun us w hp => by
    obtain ⟨p, v, h1, h2, h3⟩ := h us w hp
    refine ⟨v, w, ?_, h3, Below.refl _ _⟩
    unfold execOp
    simp only [ho, h1, Instr.loadAt, Instr.sureAddr, Sem.run_bind, Sem.run_pure, Result.andThen_ok, h2]
/-- A literal slice. -/
theorem obl_build {t : TypeId} {n : Nat} {parts : Array (Nat × Operand)} (hg : o.guard = none) (ho : o.op = .buildSlice t n parts) (h : ∀ us w, Pre l a0 w0 Φ i o us w → ∃ ps v w', (parts.map fun x => (x.1, (A us).eval x.2)) = ps ∧ (Instr.buildSlice t n ps).run P w = .ok v w' ∧ (Φ.getD i .any).p w' v ∧ Below w.heap.size w w') : obl P l a0 A w0 Φ i o :=
  obl_run hg fun us w hp => by
    obtain ⟨ps, v, w', h0, h1, h2, h3⟩ := h us w hp
    subst h0
    refine ⟨v, w', ?_, h2, h3⟩
    unfold execOp
    simp only [ho, Sem.run_bind]
    rw [h1]
    rfl
/-- A call of a function by its name. -/
theorem obl_call {f : FuncId} {fn : Func} {xs : Array Operand} {ats : Array TypeId} (hg : o.guard = none) (ho : o.op = .call { callee := .value (.func f), args := xs, argTypes := ats }) (hf : P.funcs[f]? = some fn) (hn : (fn.name == "runtime.NumGoroutine") = false) (hb : fn.body.isNone = false)
    (h : ∀ us w, Pre l a0 w0 Φ i o us w → ∃ args, xs.map (A us).eval = args ∧ Calls P f args w fun e w' => ∃ v, e = .returned v ∧ (Φ.getD i .any).p w' v ∧ Below w.heap.size w w') : obl P l a0 A w0 Φ i o := fun us w hb' hd hu => by
  obtain ⟨args, ha, hc⟩ := h us w ⟨hb', hd, hu⟩
  refine wpList_plain hg fun K hK => ?_
  unfold Oper.wp
  obtain ⟨dst, op, type, pos, after, guard⟩ := o
  simp only at ho
  subst ho
  have hr : (execOp (A us).eval { dst, op := .call { callee := .value (.func f), args := xs, argTypes := ats }, type, pos, after, guard }).run P w = .ok (.enter f args) w := by
    rw [execOp_call_go]
    have : (#[] ++ xs.map (A us).eval ++ #[] : Array Value) = args := by rw [ha]; simp
    rw [this]
    have hn' : fn.name ≠ "runtime.NumGoroutine" := by simpa using hn
    have hb'' : fn.body ≠ none := fun h => by rw [h] at hb; cases hb
    simp [callFunc, hf, hn', hb'']
  rw [hr, Oper.upon_enter]
  refine Calls.mono hc ?_
  rintro e w' ⟨v, rfl, hv, hbv⟩
  exact hK _ _ ⟨rfl, v, rfl, hv, hbv⟩
theorem obls_nil {k : Nat} : obls P l a0 A w0 Φ [] k := trivial
theorem obls_cons {r : List Oper} {k : Nat} (h : obl P l a0 A w0 Φ k o) (hr : obls P l a0 A w0 Φ r (k + 1)) : obls P l a0 A w0 Φ (o :: r) k := ⟨h, hr⟩
end
end Go.Proofs.Ytfhaebaegkpkhaa.Mono
