/- Small laws for the walk, over any program: a call through a slot that holds a closure. -/
import Derived.WalkKit
set_option linter.unusedVariables false
set_option linter.unusedSimpArgs false
namespace Go.Proofs.Ytfhaebaegkpkhaa.Kit
open Go

/-- A function value called. -/
def callSlot (v : Value) (args : Array Value) : Sem Next := do
  let d ← Deferred.ofValue v args
  invoke d.target d.args
theorem callSlot_func (f : FuncId) (first cap args : Array Value) : callSlot (.func (.func f) first cap) args = callFunc f (first ++ args ++ cap) := rfl
theorem execOp_call_slot (a : Act) (dst : Option Tmp) (t : Tmp) (xs : Array Operand) (ats : Array TypeId) (ty : TypeId) (pos : String) (after : Array Edge) (guard : Option (Nat × Bool)) :
    execOp a.eval { dst, op := .call { callee := .value (.tmp t), args := xs, argTypes := ats }, type := ty, pos, after, guard } = callSlot (a.eval (.tmp t)) (xs.map a.eval) := rfl
end Go.Proofs.Ytfhaebaegkpkhaa.Kit
