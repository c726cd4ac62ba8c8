/-
  A call of a function of one argument, by its contract, at a step of a region that draws.
-/
import Derived.Test.YteiialpecaebdaaDoorAp
set_option linter.unusedVariables false
set_option linter.unusedSimpArgs false
namespace Go.Proofs.YteiialpecaebdaaDoor
open Go.RowKit
open Go.Proofs

theorem step_call1 {P : Program} {ops : Array Oper} {o : Oper} {a : Act} {w : World} {K : Act → World → Prop} {Q : Exit → Act → World → Prop} {E : Prop} {fn : Func} (f : FuncId) (hfn : P.funcs[f]? = some fn) (hnm : (fn.name == "runtime.NumGoroutine") = false) (hb : fn.body.isNone = false) (x : Operand) (ty : TypeId)
    (ho : o.op = .call { callee := .value (.func f), args := #[x], argTypes := #[ty] }) (hw : Region.wanted o (yielded ops a.tmps) = true)
    (v : Value) (R : Ending → World → Prop) (hc : Calls P f #[v] w R) (hx : a.eval x = v) (hR : ∀ e w', R e w' → ∃ r, e = .returned r)
    (h : ∀ r w', R (.returned r) w' → K (a.put o.dst r) w') :
    if Region.wanted o (yielded ops a.tmps) = true then Oper.wp P o a w K Q else E := by
  rw [if_pos hw]
  have he : (execOp a.eval o).run P w = .ok (.enter f #[v]) w := by
    have e : a.eval (.func f) = .func (.func f) #[] #[] := rfl
    have h1 : fn.name ≠ "runtime.NumGoroutine" := by simpa using hnm
    have h2 : fn.body ≠ none := by intro h; rw [h] at hb; cases hb
    simp [execOp, ho, resolve, invoke, e, hx, Deferred.ofValue, callFunc, hfn, h1, h2]
  unfold Oper.wp
  rw [he, Oper.upon_enter]
  refine hc.mono ?_
  intro e w' hr
  obtain ⟨r, rfl⟩ := hR e w' hr
  exact h r w' hr
end Go.Proofs.YteiialpecaebdaaDoor
