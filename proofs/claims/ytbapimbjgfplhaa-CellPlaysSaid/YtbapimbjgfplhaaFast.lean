/- A call through a function value that lies in a slot, brought to the goal by one small law (else the walk's simp goes through every kind of callee). -/
import Derived.WalkKit
import Derived.WalkLawsBesides
namespace Go.Proofs.Ytbapimbjgfplhaa
def callVal (f : Value) (args : Array Value) : Sem Next := do let d ← Deferred.ofValue f args; invoke d.target d.args
theorem callVal_func (f : FuncId) (first caps args : Array Value) : callVal (.func (.func f) first caps) args = callFunc f (first ++ args ++ caps) := rfl
theorem execOp_call_slot (a : Act) (dst : Option Tmp) (t : Tmp) (xs : Array Operand) (ats : Array TypeId) (ty : TypeId) (pos : String) (after : Array Edge) (guard : Option (Nat × Bool)) :
    execOp a.eval { dst, op := .call { callee := .value (.tmp t), args := xs, argTypes := ats }, type := ty, pos, after, guard } = callVal (a.eval (.tmp t)) (xs.map a.eval) := rfl
end Go.Proofs.Ytbapimbjgfplhaa
