/-
  Steps as plain data, and what the document says of one: nothing of Go here.
-/
import Derived.Test.YteiialpecaebdaaDoorTb
set_option linter.unusedVariables false
set_option linter.unusedSimpArgs false
namespace Go.Proofs.YteiialpecaebdaaDoor

structure StepD where
  op : Int
  pre : Int
  atom : Int
  n : Int
  num : Int
  text : ByteArray
  deriving DecidableEq, Inhabited

def stepL (x : StepD) : List Value := [.int .i64 x.op, .int .i64 x.pre, .int .i64 x.atom, .int .i64 x.n, .int .i64 x.num, .string x.text]
def stepsL (t : List StepD) : List Value := t.flatMap stepL
def takesI (op : Int) : Int := if op = 3 then 2 else if op = 4 then 2 else if op = 5 then 1 else if op = 6 then 1 else 0
def okText (l : List UInt8) : Bool := l.all fun c => decide (32 ≤ c.toNat) && decide (c.toNat ≤ 126)
def metricAt (i : Int) : Bool := (rowAt i.toNat).metric
def symB (x : StepD) : Bool := decide (0 ≤ x.atom) && decide (x.atom < 48) && decide (-99 ≤ x.n) && decide (x.n ≤ 99) && (x.pre == -1 || (decide (0 ≤ x.pre) && decide (x.pre < 20) && metricAt x.atom))
def noText (x : StepD) : Bool := x.text.toList.isEmpty
def mayB (x : StepD) : Bool :=
  if x.op = 1 then decide (1 ≤ x.num) && x.pre == -1 && x.atom == 0 && x.n == 0 && noText x
  else if x.op = 2 then symB x && x.num == 0 && noText x
  else if x.op = 3 ∨ x.op = 4 ∨ x.op = 5 then x.pre == -1 && x.atom == 0 && x.n == 0 && x.num == 0 && noText x
  else if x.op = 6 ∨ x.op = 7 then okText x.text.toList && x.pre == -1 && x.atom == 0 && x.n == 0 && x.num == 0
  else false
end Go.Proofs.YteiialpecaebdaaDoor
