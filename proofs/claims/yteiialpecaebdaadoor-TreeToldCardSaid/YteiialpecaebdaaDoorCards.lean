/-
  DERIVED. GIVEN WITH THE SEED: THE CARDS: each row of YteiialpecaebdaaDoorRows.lean that lists a variable, with what it lists TIED to the program's text (the seventh form; the later family's looks); each row that meets fmt, with fmt's text TOLD by the authors' own Lean function (tested against real Go, not proved from fmt's source: count such statements apart). THE CARD IS WHAT COUNTS. Prove the row's statement (the work); the ties are given (YteiialpecaebdaaDoorTie.lean); close each card by the builder's one call (the guide's Derived/Test/ToyasCard.lean, 'card_holds'). Laid BY PROGRAM, IN A SANDBOX (cutbox-door.mjs). By AI agents, Wed Nov 11 2026. No macro, syntax, notation, axiom, sorry.
-/
import Derived.Test.YteiialpecaebdaaDoorRows
import GoSem.ClaimSeven
namespace Go.Proofs.YteiialpecaebdaaDoor
namespace Rows

/-- THE TIED CARD OF 'drachmlaw09.TreeTells'. -/
def treeTellsCard : Claim7 := { stood := { row := treeTellsRow, standIns := [], harness := (true, "f48e85e9acf359f4524459bafca073a759847856a16a7c7e390c7af054217636"), looks := false }, kinds := [], alts := [], laidByText := true, laidKinds := [.widerDeep], laidTests := true, laidLooks := .later }
def TreeTellsCardSaid : Prop := Claim7.holds Tryd.pinned (.plain (OpenSpec.ofChange treeTellsSpec)) treeTellsCard

/-- THE TIED CARD OF 'drachmlaw09.TreeParts'. -/
def treePartsCard : Claim7 := { stood := { row := treePartsRow, standIns := [], harness := (true, "f48e85e9acf359f4524459bafca073a759847856a16a7c7e390c7af054217636"), looks := false }, kinds := [], alts := [], laidByText := true, laidKinds := [.widerDeep], laidTests := true, laidLooks := .later }
def TreePartsCardSaid : Prop := Claim7.holds Tryd.pinned (.plain (OpenSpec.ofChange treePartsSpec)) treePartsCard

/-- THE TIED CARD OF 'drachmlaw09.TreeGrows'. -/
def treeGrowsCard : Claim7 := { stood := { row := treeGrowsRow, standIns := [], harness := (true, "f48e85e9acf359f4524459bafca073a759847856a16a7c7e390c7af054217636"), looks := false }, kinds := [], alts := [], laidByText := true, laidKinds := [.widerDeep], laidTests := true, laidLooks := .later }
def TreeGrowsCardSaid : Prop := Claim7.holds Tryd.pinned (.plain (OpenSpec.ofChange treeGrowsSpec)) treeGrowsCard

/-- THE TIED CARD OF 'drachmlaw09.TreeNests'. -/
def treeNestsCard : Claim7 := { stood := { row := treeNestsRow, standIns := [], harness := (true, "f48e85e9acf359f4524459bafca073a759847856a16a7c7e390c7af054217636"), looks := false }, kinds := [], alts := [], laidByText := true, laidKinds := [.widerDeep], laidTests := true, laidLooks := .later }
def TreeNestsCardSaid : Prop := Claim7.holds Tryd.pinned (.plain (OpenSpec.ofChange treeNestsSpec)) treeNestsCard

/-- THE TIED CARD OF 'drachmlaw09.TreeTold'. -/
def treeToldCard : Claim7 := { stood := { row := treeToldRow, standIns := [], harness := (true, "f48e85e9acf359f4524459bafca073a759847856a16a7c7e390c7af054217636"), looks := false }, kinds := [], alts := [], laidByText := true, laidKinds := [.widerDeep], laidTests := true, laidLooks := .later }
def TreeToldCardSaid : Prop := Claim7.holds Tryd.pinned (.plain (OpenSpec.ofChange treeToldSpec)) treeToldCard

/-- THE TIED CARD OF 'drachmlaw09.TreeLeaves'. -/
def treeLeavesCard : Claim7 := { stood := { row := treeLeavesRow, standIns := [], harness := (true, "f48e85e9acf359f4524459bafca073a759847856a16a7c7e390c7af054217636"), looks := false }, kinds := [], alts := [], laidByText := true, laidKinds := [.widerDeep], laidTests := true, laidLooks := .later }
def TreeLeavesCardSaid : Prop := Claim7.holds Tryd.pinned (.plain (OpenSpec.ofChange treeLeavesSpec)) treeLeavesCard

/-- THE SECOND FORM's CARD OF 'drachmlaw09.TreeTells'. -/
def treeTellsUptoCard : Claim7 := { stood := { row := treeTellsUptoRow, standIns := [], harness := (true, "f48e85e9acf359f4524459bafca073a759847856a16a7c7e390c7af054217636"), looks := false }, kinds := [], alts := [], laidByText := true, laidKinds := [.widerDeep], laidTests := true, laidLooks := .later }
def TreeTellsUptoCardSaid : Prop := Claim7.holds Tryd.pinned (.plain (OpenSpec.upto treeTellsSpec)) treeTellsUptoCard

/-- THE SECOND FORM's CARD OF 'drachmlaw09.TreeParts'. -/
def treePartsUptoCard : Claim7 := { stood := { row := treePartsUptoRow, standIns := [], harness := (true, "f48e85e9acf359f4524459bafca073a759847856a16a7c7e390c7af054217636"), looks := false }, kinds := [], alts := [], laidByText := true, laidKinds := [.widerDeep], laidTests := true, laidLooks := .later }
def TreePartsUptoCardSaid : Prop := Claim7.holds Tryd.pinned (.plain (OpenSpec.upto treePartsSpec)) treePartsUptoCard

/-- THE SECOND FORM's CARD OF 'drachmlaw09.TreeGrows'. -/
def treeGrowsUptoCard : Claim7 := { stood := { row := treeGrowsUptoRow, standIns := [], harness := (true, "f48e85e9acf359f4524459bafca073a759847856a16a7c7e390c7af054217636"), looks := false }, kinds := [], alts := [], laidByText := true, laidKinds := [.widerDeep], laidTests := true, laidLooks := .later }
def TreeGrowsUptoCardSaid : Prop := Claim7.holds Tryd.pinned (.plain (OpenSpec.upto treeGrowsSpec)) treeGrowsUptoCard

/-- THE SECOND FORM's CARD OF 'drachmlaw09.TreeNests'. -/
def treeNestsUptoCard : Claim7 := { stood := { row := treeNestsUptoRow, standIns := [], harness := (true, "f48e85e9acf359f4524459bafca073a759847856a16a7c7e390c7af054217636"), looks := false }, kinds := [], alts := [], laidByText := true, laidKinds := [.widerDeep], laidTests := true, laidLooks := .later }
def TreeNestsUptoCardSaid : Prop := Claim7.holds Tryd.pinned (.plain (OpenSpec.upto treeNestsSpec)) treeNestsUptoCard

/-- THE SECOND FORM's CARD OF 'drachmlaw09.TreeTold'. -/
def treeToldUptoCard : Claim7 := { stood := { row := treeToldUptoRow, standIns := [], harness := (true, "f48e85e9acf359f4524459bafca073a759847856a16a7c7e390c7af054217636"), looks := false }, kinds := [], alts := [], laidByText := true, laidKinds := [.widerDeep], laidTests := true, laidLooks := .later }
def TreeToldUptoCardSaid : Prop := Claim7.holds Tryd.pinned (.plain (OpenSpec.upto treeToldSpec)) treeToldUptoCard

/-- THE SECOND FORM's CARD OF 'drachmlaw09.TreeLeaves'. -/
def treeLeavesUptoCard : Claim7 := { stood := { row := treeLeavesUptoRow, standIns := [], harness := (true, "f48e85e9acf359f4524459bafca073a759847856a16a7c7e390c7af054217636"), looks := false }, kinds := [], alts := [], laidByText := true, laidKinds := [.widerDeep], laidTests := true, laidLooks := .later }
def TreeLeavesUptoCardSaid : Prop := Claim7.holds Tryd.pinned (.plain (OpenSpec.upto treeLeavesSpec)) treeLeavesUptoCard
end Rows
end Go.Proofs.YteiialpecaebdaaDoor
