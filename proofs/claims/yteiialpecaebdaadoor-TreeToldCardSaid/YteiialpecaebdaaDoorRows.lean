/-
  NARROWER THAN 'FOR EVERY INPUT', by the rows' own cells (each row's printed sentence says how): TreeTells: laid · TreeParts: laid · TreeGrows: laid · TreeNests: laid · TreeTold: laid · TreeLeaves: laid.
  DERIVED. THE GIVEN ROWS OF THIS SEAT. 6 by the template 'for every input the law returns true; each argument reads behind the call as it read before'; 0 by the template 'total and deterministic' (their statements: YteiialpecaebdaaDoorTotals.lean).
  GIVEN WITH THE SEED: the statements are not yours to turn. If you find one false, say at which input.
  Laid BY PROGRAM, IN A SANDBOX (cutbox-rows.mjs): the forced cells as the released guide's own fill.sh prints them over the translation 1b11bacebfd50b1b… (all of the seat's roots in one cut). By AI agents, Wed Nov 11 2026. No macro, syntax, notation, axiom, sorry.
-/
import Derived.Test.YteiialpecaebdaaDoorChecked
import GoSem.Claim
import GoSem.ClaimJoined
import GoSem.ClaimMapViews
import Derived.JoinedTies
import Derived.KernelRfl
namespace Go.Proofs.YteiialpecaebdaaDoor
/- THE CELL 'sum', in the pinned program and in every row, IS THE sha256 OF THE DUMP (.gsa) THAT YteiialpecaebdaaDoorProg.lean LOADS. Nothing in Lean hashes anything: it is a label: what it is worth is what the hold of that sum in a sandbox is worth. -/
noncomputable def Tryd.pinned : Pinned := { name := "yteiialpecaebdaadoor", sum := "1b11bacebfd50b1b4ede9e266ba9b8e7eab8dca47ae4532fa12e0cd5d724cad6", checked := Tryd.checked }
namespace Rows
def none {H : Type} : Left H := { results := [], args := [] }

/- WHAT THE LISTED PACKAGE-LEVEL VARIABLES READ AS WHEN THE CALL BEGINS. Each datum BY PROGRAM (the guide's laid-datum.mjs) off the statement by which the dump's own 'gosem.cut.vars' lays the variable. In a bare row this is a premise. The card (YteiialpecaebdaaDoorCards.lean) ties it to the program's text. -/
def laid_drachm_atoms_prefixes {H : Type} : DataW H := .agg [.agg [.agg [.lit (.string [89]), .lit (.string [89, 65]), .lit (.string [89]), .lit (.string []), .lit (.string [89])], .lit (.int .i64 24)], .agg [.agg [.lit (.string [90]), .lit (.string [90, 65]), .lit (.string [90]), .lit (.string []), .lit (.string [90])], .lit (.int .i64 21)], .agg [.agg [.lit (.string [69]), .lit (.string [69, 88]), .lit (.string [69]), .lit (.string [69]), .lit (.string [69])], .lit (.int .i64 18)], .agg [.agg [.lit (.string [80]), .lit (.string [80, 84]), .lit (.string [80]), .lit (.string [80, 69]), .lit (.string [80])], .lit (.int .i64 15)], .agg [.agg [.lit (.string [84]), .lit (.string [84, 82]), .lit (.string [84]), .lit (.string [84]), .lit (.string [84])], .lit (.int .i64 12)], .agg [.agg [.lit (.string [71]), .lit (.string [71, 65]), .lit (.string [71]), .lit (.string [71]), .lit (.string [71])], .lit (.int .i64 9)], .agg [.agg [.lit (.string [77]), .lit (.string [77, 65]), .lit (.string [77]), .lit (.string [77, 65]), .lit (.string [77])], .lit (.int .i64 6)], .agg [.agg [.lit (.string [107]), .lit (.string [75]), .lit (.string [107]), .lit (.string [75]), .lit (.string [107])], .lit (.int .i64 3)], .agg [.agg [.lit (.string [104]), .lit (.string [72]), .lit (.string [104]), .lit (.string [72]), .lit (.string [104])], .lit (.int .i64 2)], .agg [.agg [.lit (.string [100, 97]), .lit (.string [68, 65]), .lit (.string [100, 97]), .lit (.string [68, 65]), .lit (.string [100, 97])], .lit (.int .i64 1)], .agg [.agg [.lit (.string [100]), .lit (.string [68]), .lit (.string [100]), .lit (.string [68]), .lit (.string [100])], .lit (.int .i64 (-1))], .agg [.agg [.lit (.string [99]), .lit (.string [67]), .lit (.string [99]), .lit (.string [67]), .lit (.string [99])], .lit (.int .i64 (-2))], .agg [.agg [.lit (.string [109]), .lit (.string [77]), .lit (.string [109]), .lit (.string [77]), .lit (.string [109])], .lit (.int .i64 (-3))], .agg [.agg [.lit (.string [117]), .lit (.string [85]), .lit (.string [117]), .lit (.string [85]), .lit (.string [117])], .lit (.int .i64 (-6))], .agg [.agg [.lit (.string [110]), .lit (.string [78]), .lit (.string [110]), .lit (.string [78]), .lit (.string [110])], .lit (.int .i64 (-9))], .agg [.agg [.lit (.string [112]), .lit (.string [80]), .lit (.string [112]), .lit (.string [80]), .lit (.string [112])], .lit (.int .i64 (-12))], .agg [.agg [.lit (.string [102]), .lit (.string [70]), .lit (.string [102]), .lit (.string [70]), .lit (.string [102])], .lit (.int .i64 (-15))], .agg [.agg [.lit (.string [97]), .lit (.string [65]), .lit (.string [97]), .lit (.string [65]), .lit (.string [97])], .lit (.int .i64 (-18))], .agg [.agg [.lit (.string [122]), .lit (.string [90, 79]), .lit (.string [122]), .lit (.string []), .lit (.string [122])], .lit (.int .i64 (-21))], .agg [.agg [.lit (.string [121]), .lit (.string [89, 79]), .lit (.string [121]), .lit (.string []), .lit (.string [121])], .lit (.int .i64 (-24))]]

/-- 'drachmlaw09.TreeTells': WHATEVER THE INPUT: true; the input reads as it did. -/
def treeTellsSpec : ChangeSpec := { name := "treeTells", fn := fun _ => fun
  | [d1, d2] => { results := [.lit (.bool true)], args := [d1, d2] }
  | _ => none }
def treeTellsRow : OpenClaim := { program := "yteiialpecaebdaadoor", sum := "1b11bacebfd50b1b4ede9e266ba9b8e7eab8dca47ae4532fa12e0cd5d724cad6", func := "drachm/drachmlaw09.TreeTells", spec := "treeTells", unfollowed := true, recurses := true, named := ["drachm/atoms.prefixes"], apart := false, laid := [("drachm/atoms.prefixes", laid_drachm_atoms_prefixes)] }
def TreeTellsSaid : Prop := treeTellsRow.holds Tryd.pinned (OpenSpec.ofChange treeTellsSpec)

/-- ITS FALSE NEIGHBOUR: 'it returns false'. Refute it at one input. -/
def treeTellsWrong : ChangeSpec := { name := "treeTells", fn := fun _ => fun
  | [d1, d2] => { results := [.lit (.bool false)], args := [d1, d2] }
  | _ => none }
def TreeTellsWrongFalsely : Prop := treeTellsRow.holds Tryd.pinned (OpenSpec.ofChange treeTellsWrong)

/-- 'drachmlaw09.TreeParts': WHATEVER THE INPUT: true; the input reads as it did. -/
def treePartsSpec : ChangeSpec := { name := "treeParts", fn := fun _ => fun
  | [d1, d2] => { results := [.lit (.bool true)], args := [d1, d2] }
  | _ => none }
def treePartsRow : OpenClaim := { program := "yteiialpecaebdaadoor", sum := "1b11bacebfd50b1b4ede9e266ba9b8e7eab8dca47ae4532fa12e0cd5d724cad6", func := "drachm/drachmlaw09.TreeParts", spec := "treeParts", unfollowed := true, recurses := true, named := ["drachm/atoms.prefixes"], apart := false, laid := [("drachm/atoms.prefixes", laid_drachm_atoms_prefixes)] }
def TreePartsSaid : Prop := treePartsRow.holds Tryd.pinned (OpenSpec.ofChange treePartsSpec)

/-- ITS FALSE NEIGHBOUR: 'it returns false'. Refute it at one input. -/
def treePartsWrong : ChangeSpec := { name := "treeParts", fn := fun _ => fun
  | [d1, d2] => { results := [.lit (.bool false)], args := [d1, d2] }
  | _ => none }
def TreePartsWrongFalsely : Prop := treePartsRow.holds Tryd.pinned (OpenSpec.ofChange treePartsWrong)

/-- 'drachmlaw09.TreeGrows': WHATEVER THE INPUT: true; the input reads as it did. -/
def treeGrowsSpec : ChangeSpec := { name := "treeGrows", fn := fun _ => fun
  | [d1, d2, d3] => { results := [.lit (.bool true)], args := [d1, d2, d3] }
  | _ => none }
def treeGrowsRow : OpenClaim := { program := "yteiialpecaebdaadoor", sum := "1b11bacebfd50b1b4ede9e266ba9b8e7eab8dca47ae4532fa12e0cd5d724cad6", func := "drachm/drachmlaw09.TreeGrows", spec := "treeGrows", unfollowed := true, recurses := true, named := ["drachm/atoms.prefixes"], apart := false, laid := [("drachm/atoms.prefixes", laid_drachm_atoms_prefixes)] }
def TreeGrowsSaid : Prop := treeGrowsRow.holds Tryd.pinned (OpenSpec.ofChange treeGrowsSpec)

/-- ITS FALSE NEIGHBOUR: 'it returns false'. Refute it at one input. -/
def treeGrowsWrong : ChangeSpec := { name := "treeGrows", fn := fun _ => fun
  | [d1, d2, d3] => { results := [.lit (.bool false)], args := [d1, d2, d3] }
  | _ => none }
def TreeGrowsWrongFalsely : Prop := treeGrowsRow.holds Tryd.pinned (OpenSpec.ofChange treeGrowsWrong)

/-- 'drachmlaw09.TreeNests': WHATEVER THE INPUT: true; the input reads as it did. -/
def treeNestsSpec : ChangeSpec := { name := "treeNests", fn := fun _ => fun
  | [d1, d2, d3] => { results := [.lit (.bool true)], args := [d1, d2, d3] }
  | _ => none }
def treeNestsRow : OpenClaim := { program := "yteiialpecaebdaadoor", sum := "1b11bacebfd50b1b4ede9e266ba9b8e7eab8dca47ae4532fa12e0cd5d724cad6", func := "drachm/drachmlaw09.TreeNests", spec := "treeNests", unfollowed := true, recurses := true, named := ["drachm/atoms.prefixes"], apart := false, laid := [("drachm/atoms.prefixes", laid_drachm_atoms_prefixes)] }
def TreeNestsSaid : Prop := treeNestsRow.holds Tryd.pinned (OpenSpec.ofChange treeNestsSpec)

/-- ITS FALSE NEIGHBOUR: 'it returns false'. Refute it at one input. -/
def treeNestsWrong : ChangeSpec := { name := "treeNests", fn := fun _ => fun
  | [d1, d2, d3] => { results := [.lit (.bool false)], args := [d1, d2, d3] }
  | _ => none }
def TreeNestsWrongFalsely : Prop := treeNestsRow.holds Tryd.pinned (OpenSpec.ofChange treeNestsWrong)

/-- 'drachmlaw09.TreeTold': WHATEVER THE INPUT: true; the input reads as it did. -/
def treeToldSpec : ChangeSpec := { name := "treeTold", fn := fun _ => fun
  | [d1, d2, d3] => { results := [.lit (.bool true)], args := [d1, d2, d3] }
  | _ => none }
def treeToldRow : OpenClaim := { program := "yteiialpecaebdaadoor", sum := "1b11bacebfd50b1b4ede9e266ba9b8e7eab8dca47ae4532fa12e0cd5d724cad6", func := "drachm/drachmlaw09.TreeTold", spec := "treeTold", unfollowed := true, recurses := true, named := ["drachm/atoms.prefixes"], apart := false, laid := [("drachm/atoms.prefixes", laid_drachm_atoms_prefixes)] }
def TreeToldSaid : Prop := treeToldRow.holds Tryd.pinned (OpenSpec.ofChange treeToldSpec)

/-- ITS FALSE NEIGHBOUR: 'it returns false'. Refute it at one input. -/
def treeToldWrong : ChangeSpec := { name := "treeTold", fn := fun _ => fun
  | [d1, d2, d3] => { results := [.lit (.bool false)], args := [d1, d2, d3] }
  | _ => none }
def TreeToldWrongFalsely : Prop := treeToldRow.holds Tryd.pinned (OpenSpec.ofChange treeToldWrong)

/-- 'drachmlaw09.TreeLeaves': WHATEVER THE INPUT: true; the input reads as it did. -/
def treeLeavesSpec : ChangeSpec := { name := "treeLeaves", fn := fun _ => fun
  | [d] => { results := [.lit (.bool true)], args := [d] }
  | _ => none }
def treeLeavesRow : OpenClaim := { program := "yteiialpecaebdaadoor", sum := "1b11bacebfd50b1b4ede9e266ba9b8e7eab8dca47ae4532fa12e0cd5d724cad6", func := "drachm/drachmlaw09.TreeLeaves", spec := "treeLeaves", unfollowed := true, recurses := true, named := ["drachm/atoms.prefixes"], apart := false, laid := [("drachm/atoms.prefixes", laid_drachm_atoms_prefixes)] }
def TreeLeavesSaid : Prop := treeLeavesRow.holds Tryd.pinned (OpenSpec.ofChange treeLeavesSpec)

/-- ITS FALSE NEIGHBOUR: 'it returns false'. Refute it at one input. -/
def treeLeavesWrong : ChangeSpec := { name := "treeLeaves", fn := fun _ => fun
  | [d] => { results := [.lit (.bool false)], args := [d] }
  | _ => none }
def TreeLeavesWrongFalsely : Prop := treeLeavesRow.holds Tryd.pinned (OpenSpec.ofChange treeLeavesWrong)

/- THE SECOND FORM. 'bulk': how many values and letters a reading holds, each counted each time it is reached (what is shared counts as often as it is met; a slice's spare places count too). A statement '..UptoSaid' is the law's where the arguments, and the package variables that the reading takes, are together of bulk at most 1048576: NARROWER than '..Said'. Prove '..Said' where nothing that the law and all that it calls make is longer than what came in: it says more and counts as full. Else prove '..UptoSaid'. A law counts once. -/
mutual
def uptoBulk {H : Type} : DataW H → Nat
  | .lit (.string bytes) => bytes.length + 1
  | .lit _ => 1
  | .nil => 1
  | .ptr d => uptoBulk d + 1
  | .slice elems spare => uptoBulkAll elems + uptoBulkAll spare + 1
  | .agg parts => uptoBulkAll parts + 1
  | .iface _ d => uptoBulk d + 1
  | .map entries => uptoBulkEntries entries + 1
  | .held _ => 1
def uptoBulkAll {H : Type} : List (DataW H) → Nat
  | [] => 0
  | d :: r => uptoBulk d + uptoBulkAll r
def uptoBulkEntries {H : Type} : List (Lit × DataW H) → Nat
  | [] => 0
  | x :: r => uptoBulkEntry x + uptoBulkEntries r
def uptoBulkEntry {H : Type} : Lit × DataW H → Nat
  | (.string bytes, d) => bytes.length + uptoBulk d + 1
  | (_, d) => uptoBulk d + 1
 end
def uptoSmall : (H : Type) → List (DataW H) → Bool := fun _ ds => decide (uptoBulkAll ds ≤ 1048576)
def OpenSpec.upto (s : _root_.Go.ChangeSpec) : _root_.Go.OpenSpec := { _root_.Go.OpenSpec.ofChange s with cond := some uptoSmall }

/-- 'drachmlaw09.TreeTells', WHERE WHAT IT READS IS OF BULK AT MOST 1048576: true; the input reads as it did. -/
def treeTellsUptoRow : OpenClaim := { program := "yteiialpecaebdaadoor", sum := "1b11bacebfd50b1b4ede9e266ba9b8e7eab8dca47ae4532fa12e0cd5d724cad6", func := "drachm/drachmlaw09.TreeTells", spec := "treeTells", unfollowed := true, recurses := true, named := ["drachm/atoms.prefixes"], apart := false, laid := [("drachm/atoms.prefixes", laid_drachm_atoms_prefixes)], narrowed := true }
def TreeTellsUptoSaid : Prop := treeTellsUptoRow.holds Tryd.pinned (OpenSpec.upto treeTellsSpec)

/-- 'drachmlaw09.TreeParts', WHERE WHAT IT READS IS OF BULK AT MOST 1048576: true; the input reads as it did. -/
def treePartsUptoRow : OpenClaim := { program := "yteiialpecaebdaadoor", sum := "1b11bacebfd50b1b4ede9e266ba9b8e7eab8dca47ae4532fa12e0cd5d724cad6", func := "drachm/drachmlaw09.TreeParts", spec := "treeParts", unfollowed := true, recurses := true, named := ["drachm/atoms.prefixes"], apart := false, laid := [("drachm/atoms.prefixes", laid_drachm_atoms_prefixes)], narrowed := true }
def TreePartsUptoSaid : Prop := treePartsUptoRow.holds Tryd.pinned (OpenSpec.upto treePartsSpec)

/-- 'drachmlaw09.TreeGrows', WHERE WHAT IT READS IS OF BULK AT MOST 1048576: true; the input reads as it did. -/
def treeGrowsUptoRow : OpenClaim := { program := "yteiialpecaebdaadoor", sum := "1b11bacebfd50b1b4ede9e266ba9b8e7eab8dca47ae4532fa12e0cd5d724cad6", func := "drachm/drachmlaw09.TreeGrows", spec := "treeGrows", unfollowed := true, recurses := true, named := ["drachm/atoms.prefixes"], apart := false, laid := [("drachm/atoms.prefixes", laid_drachm_atoms_prefixes)], narrowed := true }
def TreeGrowsUptoSaid : Prop := treeGrowsUptoRow.holds Tryd.pinned (OpenSpec.upto treeGrowsSpec)

/-- 'drachmlaw09.TreeNests', WHERE WHAT IT READS IS OF BULK AT MOST 1048576: true; the input reads as it did. -/
def treeNestsUptoRow : OpenClaim := { program := "yteiialpecaebdaadoor", sum := "1b11bacebfd50b1b4ede9e266ba9b8e7eab8dca47ae4532fa12e0cd5d724cad6", func := "drachm/drachmlaw09.TreeNests", spec := "treeNests", unfollowed := true, recurses := true, named := ["drachm/atoms.prefixes"], apart := false, laid := [("drachm/atoms.prefixes", laid_drachm_atoms_prefixes)], narrowed := true }
def TreeNestsUptoSaid : Prop := treeNestsUptoRow.holds Tryd.pinned (OpenSpec.upto treeNestsSpec)

/-- 'drachmlaw09.TreeTold', WHERE WHAT IT READS IS OF BULK AT MOST 1048576: true; the input reads as it did. -/
def treeToldUptoRow : OpenClaim := { program := "yteiialpecaebdaadoor", sum := "1b11bacebfd50b1b4ede9e266ba9b8e7eab8dca47ae4532fa12e0cd5d724cad6", func := "drachm/drachmlaw09.TreeTold", spec := "treeTold", unfollowed := true, recurses := true, named := ["drachm/atoms.prefixes"], apart := false, laid := [("drachm/atoms.prefixes", laid_drachm_atoms_prefixes)], narrowed := true }
def TreeToldUptoSaid : Prop := treeToldUptoRow.holds Tryd.pinned (OpenSpec.upto treeToldSpec)

/-- 'drachmlaw09.TreeLeaves', WHERE WHAT IT READS IS OF BULK AT MOST 1048576: true; the input reads as it did. -/
def treeLeavesUptoRow : OpenClaim := { program := "yteiialpecaebdaadoor", sum := "1b11bacebfd50b1b4ede9e266ba9b8e7eab8dca47ae4532fa12e0cd5d724cad6", func := "drachm/drachmlaw09.TreeLeaves", spec := "treeLeaves", unfollowed := true, recurses := true, named := ["drachm/atoms.prefixes"], apart := false, laid := [("drachm/atoms.prefixes", laid_drachm_atoms_prefixes)], narrowed := true }
def TreeLeavesUptoSaid : Prop := treeLeavesUptoRow.holds Tryd.pinned (OpenSpec.upto treeLeavesSpec)

end Rows
end Go.Proofs.YteiialpecaebdaaDoor
