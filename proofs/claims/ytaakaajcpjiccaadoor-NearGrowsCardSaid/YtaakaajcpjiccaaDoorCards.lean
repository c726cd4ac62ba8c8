/-
  DERIVED. GIVEN WITH THE SEED: THE CARDS: each row of YtaakaajcpjiccaaDoorRows.lean that lists a variable, with what it lists TIED to the program's text (the seventh form; the later family's looks); each row that meets fmt, with fmt's text TOLD by the authors' own Lean function (tested against real Go, not proved from fmt's source: count such statements apart). THE CARD IS WHAT COUNTS. Prove the row's statement (the work); the ties are given (YtaakaajcpjiccaaDoorTie.lean); close each card by the builder's one call (the guide's Derived/Test/ToyasCard.lean, 'card_holds'). Laid BY PROGRAM, IN A SANDBOX (cutbox-door.mjs). By AI agents, Wed Nov 11 2026. No macro, syntax, notation, axiom, sorry.
-/
import Derived.Test.YtaakaajcpjiccaaDoorRows
import GoSem.ClaimSeven
namespace Go.Proofs.YtaakaajcpjiccaaDoor
namespace Rows

/-- THE TIED CARD OF 'drachmlaw19.NearTells'. -/
def nearTellsCard : Claim7 := { stood := { row := nearTellsRow, standIns := [], harness := (true, "4bd78d8bf1ce829a6bffeb24776674b672baa99f740842e8be546063d3ecb30b"), looks := false }, kinds := [], alts := [], laidByText := true, laidKinds := [.widerDeep], laidTests := true, laidLooks := .later }
def NearTellsCardSaid : Prop := Claim7.holds Tryd.pinned (.plain (OpenSpec.ofChange nearTellsSpec)) nearTellsCard

/-- THE TIED CARD OF 'drachmlaw19.NearWalks'. -/
def nearWalksCard : Claim7 := { stood := { row := nearWalksRow, standIns := [], harness := (true, "4bd78d8bf1ce829a6bffeb24776674b672baa99f740842e8be546063d3ecb30b"), looks := false }, kinds := [], alts := [], laidByText := true, laidKinds := [.widerDeep], laidTests := true, laidLooks := .later }
def NearWalksCardSaid : Prop := Claim7.holds Tryd.pinned (.plain (OpenSpec.ofChange nearWalksSpec)) nearWalksCard

/-- THE TIED CARD OF 'drachmlaw19.NearBoth'. -/
def nearBothCard : Claim7 := { stood := { row := nearBothRow, standIns := [], harness := (true, "4bd78d8bf1ce829a6bffeb24776674b672baa99f740842e8be546063d3ecb30b"), looks := false }, kinds := [], alts := [], laidByText := true, laidKinds := [.widerDeep], laidTests := true, laidLooks := .later }
def NearBothCardSaid : Prop := Claim7.holds Tryd.pinned (.plain (OpenSpec.ofChange nearBothSpec)) nearBothCard

/-- THE TIED CARD OF 'drachmlaw19.NearGrows'. -/
def nearGrowsCard : Claim7 := { stood := { row := nearGrowsRow, standIns := [], harness := (true, "4bd78d8bf1ce829a6bffeb24776674b672baa99f740842e8be546063d3ecb30b"), looks := false }, kinds := [], alts := [], laidByText := true, laidKinds := [.widerDeep], laidTests := true, laidLooks := .later }
def NearGrowsCardSaid : Prop := Claim7.holds Tryd.pinned (.plain (OpenSpec.ofChange nearGrowsSpec)) nearGrowsCard

/-- THE TIED CARD OF 'drachmlaw19.NearOwn'. -/
def nearOwnCard : Claim7 := { stood := { row := nearOwnRow, standIns := [], harness := (true, "4bd78d8bf1ce829a6bffeb24776674b672baa99f740842e8be546063d3ecb30b"), looks := false }, kinds := [], alts := [], laidByText := true, laidKinds := [.widerDeep], laidTests := true, laidLooks := .later }
def NearOwnCardSaid : Prop := Claim7.holds Tryd.pinned (.plain (OpenSpec.ofChange nearOwnSpec)) nearOwnCard

/-- THE SECOND FORM's CARD OF 'drachmlaw19.NearTells'. -/
def nearTellsUptoCard : Claim7 := { stood := { row := nearTellsUptoRow, standIns := [], harness := (true, "4bd78d8bf1ce829a6bffeb24776674b672baa99f740842e8be546063d3ecb30b"), looks := false }, kinds := [], alts := [], laidByText := true, laidKinds := [.widerDeep], laidTests := true, laidLooks := .later }
def NearTellsUptoCardSaid : Prop := Claim7.holds Tryd.pinned (.plain (OpenSpec.upto nearTellsSpec)) nearTellsUptoCard

/-- THE SECOND FORM's CARD OF 'drachmlaw19.NearWalks'. -/
def nearWalksUptoCard : Claim7 := { stood := { row := nearWalksUptoRow, standIns := [], harness := (true, "4bd78d8bf1ce829a6bffeb24776674b672baa99f740842e8be546063d3ecb30b"), looks := false }, kinds := [], alts := [], laidByText := true, laidKinds := [.widerDeep], laidTests := true, laidLooks := .later }
def NearWalksUptoCardSaid : Prop := Claim7.holds Tryd.pinned (.plain (OpenSpec.upto nearWalksSpec)) nearWalksUptoCard

/-- THE SECOND FORM's CARD OF 'drachmlaw19.NearBoth'. -/
def nearBothUptoCard : Claim7 := { stood := { row := nearBothUptoRow, standIns := [], harness := (true, "4bd78d8bf1ce829a6bffeb24776674b672baa99f740842e8be546063d3ecb30b"), looks := false }, kinds := [], alts := [], laidByText := true, laidKinds := [.widerDeep], laidTests := true, laidLooks := .later }
def NearBothUptoCardSaid : Prop := Claim7.holds Tryd.pinned (.plain (OpenSpec.upto nearBothSpec)) nearBothUptoCard

/-- THE SECOND FORM's CARD OF 'drachmlaw19.NearGrows'. -/
def nearGrowsUptoCard : Claim7 := { stood := { row := nearGrowsUptoRow, standIns := [], harness := (true, "4bd78d8bf1ce829a6bffeb24776674b672baa99f740842e8be546063d3ecb30b"), looks := false }, kinds := [], alts := [], laidByText := true, laidKinds := [.widerDeep], laidTests := true, laidLooks := .later }
def NearGrowsUptoCardSaid : Prop := Claim7.holds Tryd.pinned (.plain (OpenSpec.upto nearGrowsSpec)) nearGrowsUptoCard

/-- THE SECOND FORM's CARD OF 'drachmlaw19.NearOwn'. -/
def nearOwnUptoCard : Claim7 := { stood := { row := nearOwnUptoRow, standIns := [], harness := (true, "4bd78d8bf1ce829a6bffeb24776674b672baa99f740842e8be546063d3ecb30b"), looks := false }, kinds := [], alts := [], laidByText := true, laidKinds := [.widerDeep], laidTests := true, laidLooks := .later }
def NearOwnUptoCardSaid : Prop := Claim7.holds Tryd.pinned (.plain (OpenSpec.upto nearOwnSpec)) nearOwnUptoCard
end Rows
end Go.Proofs.YtaakaajcpjiccaaDoor
