/-
  The law TreeGrows: the four ops joined.
-/
import Derived.Test.YteiialpecaebdaaDoorG3
import Derived.Test.YteiialpecaebdaaDoorG4
import Derived.Test.YteiialpecaebdaaDoorG5
import Derived.Test.YteiialpecaebdaaDoorG6
set_option linter.unusedVariables false
namespace Go.Proofs.YteiialpecaebdaaDoor
open Go.RowKit
open Go.Proofs

theorem treeGrows_any (a : Option Addr) (n1 k1 : Nat) (b : Option Addr) (n2 k2 : Nat) (op : Int) (w : World) (hL : Laid w) (hI : IntsIn w a n1 k1) (hJ : IntsIn w b n2 k2) :
    Calls Tryd.prog 5 #[.slice a n1 k1, .slice b n2 k2, .int .i64 op] w fun e w' => e = .returned (.bool true) ∧ Below w.heap.size w w' := by
  have h : op % 4 = 0 ∨ op % 4 = 1 ∨ op % 4 = 2 ∨ op % 4 = 3 := by omega
  rcases h with h | h | h | h
  · exact grows_3 a b n1 k1 n2 k2 op w hL hI hJ (by omega)
  · exact grows_4 a b n1 k1 n2 k2 op w hL hI hJ (by omega)
  · exact grows_5 a b n1 k1 n2 k2 op w hL hI hJ (by omega)
  · exact grows_6 a b n1 k1 n2 k2 op w hL hI hJ (by omega)
end Go.Proofs.YteiialpecaebdaaDoor
