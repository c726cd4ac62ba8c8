/-
  DERIVED. GIVEN WITH THE SEED: THE CARDS: each row of YtiinppicdhidhaaDoorRows.lean that lists a variable, with what it lists TIED to the program's text (the seventh form; the later family's looks); each row that meets fmt, with fmt's text TOLD by the authors' own Lean function (tested against real Go, not proved from fmt's source: count such statements apart). THE CARD IS WHAT COUNTS. Prove the row's statement (the work); the ties are given (YtiinppicdhidhaaDoorTie.lean); close each card by the builder's one call (the guide's Derived/Test/ToyasCard.lean, 'card_holds'). Laid BY PROGRAM, IN A SANDBOX (cutbox-door.mjs). By AI agents, Wed Nov 11 2026. No macro, syntax, notation, axiom, sorry.
-/
import Derived.Test.YtiinppicdhidhaaDoorRows
import GoSem.ClaimSeven
namespace Go.Proofs.YtiinppicdhidhaaDoor
namespace Rows

/-- THE TIED CARD OF 'drachmlaw05.AtomsTells'. -/
def atomsTellsCard : Claim7 := { stood := { row := atomsTellsRow, standIns := [], harness := (true, "de511de728de906a3d7e7ef2dc3e09e73df410e883efa3c78213514c065dd561"), looks := false }, kinds := [], alts := [], laidByText := true, laidKinds := [.data, .data, .widerDeep], laidTests := true, laidLooks := .later }
def AtomsTellsCardSaid : Prop := Claim7.holds Tryd.pinned (.plain (OpenSpec.ofChange atomsTellsSpec)) atomsTellsCard

/-- THE TIED CARD OF 'drachmlaw05.AtomsChecks'. -/
def atomsChecksCard : Claim7 := { stood := { row := atomsChecksRow, standIns := [], harness := (true, "de511de728de906a3d7e7ef2dc3e09e73df410e883efa3c78213514c065dd561"), looks := false }, kinds := [], alts := [], laidByText := true, laidKinds := [.data, .data, .widerDeep], laidTests := true, laidLooks := .later }
def AtomsChecksCardSaid : Prop := Claim7.holds Tryd.pinned (.plain (OpenSpec.ofChange atomsChecksSpec)) atomsChecksCard

/-- THE TIED CARD OF 'drachmlaw05.AtomsApart'. -/
def atomsApartCard : Claim7 := { stood := { row := atomsApartRow, standIns := [], harness := (true, "de511de728de906a3d7e7ef2dc3e09e73df410e883efa3c78213514c065dd561"), looks := false }, kinds := [], alts := [], laidByText := true, laidKinds := [.data, .data, .widerDeep], laidTests := true, laidLooks := .later }
def AtomsApartCardSaid : Prop := Claim7.holds Tryd.pinned (.plain (OpenSpec.ofChange atomsApartSpec)) atomsApartCard

/-- THE TIED CARD OF 'drachmlaw05.AtomsRanks'. -/
def atomsRanksCard : Claim7 := { stood := { row := atomsRanksRow, standIns := [], harness := (true, "de511de728de906a3d7e7ef2dc3e09e73df410e883efa3c78213514c065dd561"), looks := false }, kinds := [], alts := [], laidByText := true, laidKinds := [.data, .data, .widerDeep], laidTests := true, laidLooks := .later }
def AtomsRanksCardSaid : Prop := Claim7.holds Tryd.pinned (.plain (OpenSpec.ofChange atomsRanksSpec)) atomsRanksCard

/-- THE TIED CARD OF 'drachmlaw05.AtomsEach'. -/
def atomsEachCard : Claim7 := { stood := { row := atomsEachRow, standIns := [], harness := (true, "de511de728de906a3d7e7ef2dc3e09e73df410e883efa3c78213514c065dd561"), looks := false }, kinds := [], alts := [], laidByText := true, laidKinds := [.data, .data, .widerDeep], laidTests := true, laidLooks := .later }
def AtomsEachCardSaid : Prop := Claim7.holds Tryd.pinned (.plain (OpenSpec.ofChange atomsEachSpec)) atomsEachCard

/-- THE SECOND FORM's CARD OF 'drachmlaw05.AtomsTells'. -/
def atomsTellsUptoCard : Claim7 := { stood := { row := atomsTellsUptoRow, standIns := [], harness := (true, "de511de728de906a3d7e7ef2dc3e09e73df410e883efa3c78213514c065dd561"), looks := false }, kinds := [], alts := [], laidByText := true, laidKinds := [.data, .data, .widerDeep], laidTests := true, laidLooks := .later }
def AtomsTellsUptoCardSaid : Prop := Claim7.holds Tryd.pinned (.plain (OpenSpec.upto atomsTellsSpec)) atomsTellsUptoCard

/-- THE SECOND FORM's CARD OF 'drachmlaw05.AtomsChecks'. -/
def atomsChecksUptoCard : Claim7 := { stood := { row := atomsChecksUptoRow, standIns := [], harness := (true, "de511de728de906a3d7e7ef2dc3e09e73df410e883efa3c78213514c065dd561"), looks := false }, kinds := [], alts := [], laidByText := true, laidKinds := [.data, .data, .widerDeep], laidTests := true, laidLooks := .later }
def AtomsChecksUptoCardSaid : Prop := Claim7.holds Tryd.pinned (.plain (OpenSpec.upto atomsChecksSpec)) atomsChecksUptoCard

/-- THE SECOND FORM's CARD OF 'drachmlaw05.AtomsApart'. -/
def atomsApartUptoCard : Claim7 := { stood := { row := atomsApartUptoRow, standIns := [], harness := (true, "de511de728de906a3d7e7ef2dc3e09e73df410e883efa3c78213514c065dd561"), looks := false }, kinds := [], alts := [], laidByText := true, laidKinds := [.data, .data, .widerDeep], laidTests := true, laidLooks := .later }
def AtomsApartUptoCardSaid : Prop := Claim7.holds Tryd.pinned (.plain (OpenSpec.upto atomsApartSpec)) atomsApartUptoCard

/-- THE SECOND FORM's CARD OF 'drachmlaw05.AtomsRanks'. -/
def atomsRanksUptoCard : Claim7 := { stood := { row := atomsRanksUptoRow, standIns := [], harness := (true, "de511de728de906a3d7e7ef2dc3e09e73df410e883efa3c78213514c065dd561"), looks := false }, kinds := [], alts := [], laidByText := true, laidKinds := [.data, .data, .widerDeep], laidTests := true, laidLooks := .later }
def AtomsRanksUptoCardSaid : Prop := Claim7.holds Tryd.pinned (.plain (OpenSpec.upto atomsRanksSpec)) atomsRanksUptoCard

/-- THE SECOND FORM's CARD OF 'drachmlaw05.AtomsEach'. -/
def atomsEachUptoCard : Claim7 := { stood := { row := atomsEachUptoRow, standIns := [], harness := (true, "de511de728de906a3d7e7ef2dc3e09e73df410e883efa3c78213514c065dd561"), looks := false }, kinds := [], alts := [], laidByText := true, laidKinds := [.data, .data, .widerDeep], laidTests := true, laidLooks := .later }
def AtomsEachUptoCardSaid : Prop := Claim7.holds Tryd.pinned (.plain (OpenSpec.upto atomsEachSpec)) atomsEachUptoCard
end Rows
end Go.Proofs.YtiinppicdhidhaaDoor
