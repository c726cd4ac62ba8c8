/-
  DERIVED. GIVEN WITH THE SEED: THE CARDS: each row of YtiakjbocnfkmnaaDoorRows.lean that lists a variable, with what it lists TIED to the program's text (the seventh form; the later family's looks); each row that meets fmt, with fmt's text TOLD by the authors' own Lean function (tested against real Go, not proved from fmt's source: count such statements apart). THE CARD IS WHAT COUNTS. Prove the row's statement (the work); the ties are given (YtiakjbocnfkmnaaDoorTie.lean); close each card by the builder's one call (the guide's Derived/Test/ToyasCard.lean, 'card_holds'). Laid BY PROGRAM, IN A SANDBOX (cutbox-door.mjs). By AI agents, Wed Nov 11 2026. No macro, syntax, notation, axiom, sorry.
-/
import Derived.Test.YtiakjbocnfkmnaaDoorRows
import GoSem.ClaimSeven
namespace Go.Proofs.YtiakjbocnfkmnaaDoor
namespace Rows

/-- THE TIED CARD OF 'drachmlaw06.CodesTells'. -/
def codesTellsCard : Claim7 := { stood := { row := codesTellsRow, standIns := [], harness := (true, "245c5650edecaa4e30a8625d56fa35a8849d2eb11c630bc8f2b130badaa57048"), looks := false }, kinds := [], alts := [], laidByText := true, laidKinds := [.widerDeep], laidTests := true, laidLooks := .later }
def CodesTellsCardSaid : Prop := Claim7.holds Tryd.pinned (.plain (OpenSpec.ofChange codesTellsSpec)) codesTellsCard

/-- THE TIED CARD OF 'drachmlaw06.CodesBack'. -/
def codesBackCard : Claim7 := { stood := { row := codesBackRow, standIns := [], harness := (true, "245c5650edecaa4e30a8625d56fa35a8849d2eb11c630bc8f2b130badaa57048"), looks := false }, kinds := [], alts := [], laidByText := true, laidKinds := [.widerDeep], laidTests := true, laidLooks := .later }
def CodesBackCardSaid : Prop := Claim7.holds Tryd.pinned (.plain (OpenSpec.ofChange codesBackSpec)) codesBackCard

/-- THE TIED CARD OF 'drachmlaw06.CodesFolded'. -/
def codesFoldedCard : Claim7 := { stood := { row := codesFoldedRow, standIns := [], harness := (true, "245c5650edecaa4e30a8625d56fa35a8849d2eb11c630bc8f2b130badaa57048"), looks := false }, kinds := [], alts := [], laidByText := true, laidKinds := [.widerDeep], laidTests := true, laidLooks := .later }
def CodesFoldedCardSaid : Prop := Claim7.holds Tryd.pinned (.plain (OpenSpec.ofChange codesFoldedSpec)) codesFoldedCard

/-- THE TIED CARD OF 'drachmlaw06.CodesAll'. -/
def codesAllCard : Claim7 := { stood := { row := codesAllRow, standIns := [], harness := (true, "245c5650edecaa4e30a8625d56fa35a8849d2eb11c630bc8f2b130badaa57048"), looks := false }, kinds := [], alts := [], laidByText := true, laidKinds := [.widerDeep], laidTests := true, laidLooks := .later }
def CodesAllCardSaid : Prop := Claim7.holds Tryd.pinned (.plain (OpenSpec.ofChange codesAllSpec)) codesAllCard

/-- THE SECOND FORM's CARD OF 'drachmlaw06.CodesTells'. -/
def codesTellsUptoCard : Claim7 := { stood := { row := codesTellsUptoRow, standIns := [], harness := (true, "245c5650edecaa4e30a8625d56fa35a8849d2eb11c630bc8f2b130badaa57048"), looks := false }, kinds := [], alts := [], laidByText := true, laidKinds := [.widerDeep], laidTests := true, laidLooks := .later }
def CodesTellsUptoCardSaid : Prop := Claim7.holds Tryd.pinned (.plain (OpenSpec.upto codesTellsSpec)) codesTellsUptoCard

/-- THE SECOND FORM's CARD OF 'drachmlaw06.CodesBack'. -/
def codesBackUptoCard : Claim7 := { stood := { row := codesBackUptoRow, standIns := [], harness := (true, "245c5650edecaa4e30a8625d56fa35a8849d2eb11c630bc8f2b130badaa57048"), looks := false }, kinds := [], alts := [], laidByText := true, laidKinds := [.widerDeep], laidTests := true, laidLooks := .later }
def CodesBackUptoCardSaid : Prop := Claim7.holds Tryd.pinned (.plain (OpenSpec.upto codesBackSpec)) codesBackUptoCard

/-- THE SECOND FORM's CARD OF 'drachmlaw06.CodesFolded'. -/
def codesFoldedUptoCard : Claim7 := { stood := { row := codesFoldedUptoRow, standIns := [], harness := (true, "245c5650edecaa4e30a8625d56fa35a8849d2eb11c630bc8f2b130badaa57048"), looks := false }, kinds := [], alts := [], laidByText := true, laidKinds := [.widerDeep], laidTests := true, laidLooks := .later }
def CodesFoldedUptoCardSaid : Prop := Claim7.holds Tryd.pinned (.plain (OpenSpec.upto codesFoldedSpec)) codesFoldedUptoCard

/-- THE SECOND FORM's CARD OF 'drachmlaw06.CodesAll'. -/
def codesAllUptoCard : Claim7 := { stood := { row := codesAllUptoRow, standIns := [], harness := (true, "245c5650edecaa4e30a8625d56fa35a8849d2eb11c630bc8f2b130badaa57048"), looks := false }, kinds := [], alts := [], laidByText := true, laidKinds := [.widerDeep], laidTests := true, laidLooks := .later }
def CodesAllUptoCardSaid : Prop := Claim7.holds Tryd.pinned (.plain (OpenSpec.upto codesAllSpec)) codesAllUptoCard
end Rows
end Go.Proofs.YtiakjbocnfkmnaaDoor
