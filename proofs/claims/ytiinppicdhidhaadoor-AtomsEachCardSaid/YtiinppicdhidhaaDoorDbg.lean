/- a help for looking: goal! prints the goal and short facts -/
import Derived.Test.YtiinppicdhidhaaDoorProg
namespace Go.Proofs.YtiinppicdhidhaaDoor
open Lean Elab Tactic Meta in
elab "goal!" : tactic => withMainContext do
  let mut m := m!""
  for d in ← getLCtx do
    if d.isImplementationDetail then continue
    if ← isProp d.type then
      let f ← ppExpr d.type
      let s := toString f
      if s.length < 400 then m := m ++ m!"{d.userName} : {f}\n"
  logInfo (m ++ m!"⊢ {← getMainTarget}")
end Go.Proofs.YtiinppicdhidhaaDoor
