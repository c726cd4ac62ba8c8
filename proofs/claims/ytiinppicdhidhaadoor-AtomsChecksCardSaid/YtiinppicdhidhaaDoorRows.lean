/-
  NARROWER THAN 'FOR EVERY INPUT', by the rows' own cells (each row's printed sentence says how): AtomsTells: laid · AtomsChecks: laid · AtomsApart: laid · AtomsRanks: laid · AtomsEach: laid.
  DERIVED. THE GIVEN ROWS OF THIS SEAT. 5 by the template 'for every input the law returns true; each argument reads behind the call as it read before'; 0 by the template 'total and deterministic' (their statements: YtiinppicdhidhaaDoorTotals.lean).
  GIVEN WITH THE SEED: the statements are not yours to turn. If you find one false, say at which input.
  Laid BY PROGRAM, IN A SANDBOX (cutbox-rows.mjs): the forced cells as the released guide's own fill.sh prints them over the translation 8fcfdc0fbfaf1483… (all of the seat's roots in one cut). By AI agents, Wed Nov 11 2026. No macro, syntax, notation, axiom, sorry.
-/
import Derived.Test.YtiinppicdhidhaaDoorChecked
import GoSem.Claim
import GoSem.ClaimJoined
import GoSem.ClaimMapViews
import Derived.JoinedTies
import Derived.KernelRfl
namespace Go.Proofs.YtiinppicdhidhaaDoor
/- THE CELL 'sum', in the pinned program and in every row, IS THE sha256 OF THE DUMP (.gsa) THAT YtiinppicdhidhaaDoorProg.lean LOADS. Nothing in Lean hashes anything: it is a label: what it is worth is what the hold of that sum in a sandbox is worth. -/
noncomputable def Tryd.pinned : Pinned := { name := "ytiinppicdhidhaadoor", sum := "8fcfdc0fbfaf14832128c3d1e47af3ee325de0ed66e7950c7d66f019f5fce20e", checked := Tryd.checked }
namespace Rows
def none {H : Type} : Left H := { results := [], args := [] }

/- WHAT THE LISTED PACKAGE-LEVEL VARIABLES READ AS WHEN THE CALL BEGINS. Each datum BY PROGRAM (the guide's laid-datum.mjs) off the statement by which the dump's own 'gosem.cut.vars' lays the variable. In a bare row this is a premise. The card (YtiinppicdhidhaaDoorCards.lean) ties it to the program's text. -/
def laid_drachm_frac_tens {H : Type} : DataW H := .agg [.lit (.int .i64 2), .lit (.int .i64 5)]
def laid_drachm_atoms_notations {H : Type} : DataW H := .agg [.lit (.string [115, 101, 110, 115, 105, 116, 105, 118, 101]), .lit (.string [102, 111, 108, 100, 101, 100]), .lit (.string [115, 104, 111, 119, 110]), .lit (.string [105, 115, 111]), .lit (.string [97, 110, 115, 105])]
def laid_drachm_atoms_prefixes {H : Type} : DataW H := .agg [.agg [.agg [.lit (.string [89]), .lit (.string [89, 65]), .lit (.string [89]), .lit (.string []), .lit (.string [89])], .lit (.int .i64 24)], .agg [.agg [.lit (.string [90]), .lit (.string [90, 65]), .lit (.string [90]), .lit (.string []), .lit (.string [90])], .lit (.int .i64 21)], .agg [.agg [.lit (.string [69]), .lit (.string [69, 88]), .lit (.string [69]), .lit (.string [69]), .lit (.string [69])], .lit (.int .i64 18)], .agg [.agg [.lit (.string [80]), .lit (.string [80, 84]), .lit (.string [80]), .lit (.string [80, 69]), .lit (.string [80])], .lit (.int .i64 15)], .agg [.agg [.lit (.string [84]), .lit (.string [84, 82]), .lit (.string [84]), .lit (.string [84]), .lit (.string [84])], .lit (.int .i64 12)], .agg [.agg [.lit (.string [71]), .lit (.string [71, 65]), .lit (.string [71]), .lit (.string [71]), .lit (.string [71])], .lit (.int .i64 9)], .agg [.agg [.lit (.string [77]), .lit (.string [77, 65]), .lit (.string [77]), .lit (.string [77, 65]), .lit (.string [77])], .lit (.int .i64 6)], .agg [.agg [.lit (.string [107]), .lit (.string [75]), .lit (.string [107]), .lit (.string [75]), .lit (.string [107])], .lit (.int .i64 3)], .agg [.agg [.lit (.string [104]), .lit (.string [72]), .lit (.string [104]), .lit (.string [72]), .lit (.string [104])], .lit (.int .i64 2)], .agg [.agg [.lit (.string [100, 97]), .lit (.string [68, 65]), .lit (.string [100, 97]), .lit (.string [68, 65]), .lit (.string [100, 97])], .lit (.int .i64 1)], .agg [.agg [.lit (.string [100]), .lit (.string [68]), .lit (.string [100]), .lit (.string [68]), .lit (.string [100])], .lit (.int .i64 (-1))], .agg [.agg [.lit (.string [99]), .lit (.string [67]), .lit (.string [99]), .lit (.string [67]), .lit (.string [99])], .lit (.int .i64 (-2))], .agg [.agg [.lit (.string [109]), .lit (.string [77]), .lit (.string [109]), .lit (.string [77]), .lit (.string [109])], .lit (.int .i64 (-3))], .agg [.agg [.lit (.string [117]), .lit (.string [85]), .lit (.string [117]), .lit (.string [85]), .lit (.string [117])], .lit (.int .i64 (-6))], .agg [.agg [.lit (.string [110]), .lit (.string [78]), .lit (.string [110]), .lit (.string [78]), .lit (.string [110])], .lit (.int .i64 (-9))], .agg [.agg [.lit (.string [112]), .lit (.string [80]), .lit (.string [112]), .lit (.string [80]), .lit (.string [112])], .lit (.int .i64 (-12))], .agg [.agg [.lit (.string [102]), .lit (.string [70]), .lit (.string [102]), .lit (.string [70]), .lit (.string [102])], .lit (.int .i64 (-15))], .agg [.agg [.lit (.string [97]), .lit (.string [65]), .lit (.string [97]), .lit (.string [65]), .lit (.string [97])], .lit (.int .i64 (-18))], .agg [.agg [.lit (.string [122]), .lit (.string [90, 79]), .lit (.string [122]), .lit (.string []), .lit (.string [122])], .lit (.int .i64 (-21))], .agg [.agg [.lit (.string [121]), .lit (.string [89, 79]), .lit (.string [121]), .lit (.string []), .lit (.string [121])], .lit (.int .i64 (-24))]]

/-- 'drachmlaw05.AtomsTells': WHATEVER THE INPUT: true; the input reads as it did. -/
def atomsTellsSpec : ChangeSpec := { name := "atomsTells", fn := fun _ => fun
  | [d1, d2] => { results := [.lit (.bool true)], args := [d1, d2] }
  | _ => none }
def atomsTellsRow : OpenClaim := { program := "ytiinppicdhidhaadoor", sum := "8fcfdc0fbfaf14832128c3d1e47af3ee325de0ed66e7950c7d66f019f5fce20e", func := "drachm/drachmlaw05.AtomsTells", spec := "atomsTells", inPlace := ["internal/bytealg.IndexByteString", "internal/bytealg.IndexString"], unfollowed := true, recurses := true, named := ["drachm/atoms.prefixes", "drachm/atoms.notations", "drachm/frac.tens", "internal/bytealg.MaxLen"], plainKeys := false, apart := false, laid := [("drachm/frac.tens", laid_drachm_frac_tens), ("drachm/atoms.notations", laid_drachm_atoms_notations), ("drachm/atoms.prefixes", laid_drachm_atoms_prefixes)] }
def AtomsTellsSaid : Prop := atomsTellsRow.holds Tryd.pinned (OpenSpec.ofChange atomsTellsSpec)

/-- ITS FALSE NEIGHBOUR: 'it returns false'. Refute it at one input. -/
def atomsTellsWrong : ChangeSpec := { name := "atomsTells", fn := fun _ => fun
  | [d1, d2] => { results := [.lit (.bool false)], args := [d1, d2] }
  | _ => none }
def AtomsTellsWrongFalsely : Prop := atomsTellsRow.holds Tryd.pinned (OpenSpec.ofChange atomsTellsWrong)

/-- 'drachmlaw05.AtomsChecks': WHATEVER THE INPUT: true; the input reads as it did. -/
def atomsChecksSpec : ChangeSpec := { name := "atomsChecks", fn := fun _ => fun
  | [d] => { results := [.lit (.bool true)], args := [d] }
  | _ => none }
def atomsChecksRow : OpenClaim := { program := "ytiinppicdhidhaadoor", sum := "8fcfdc0fbfaf14832128c3d1e47af3ee325de0ed66e7950c7d66f019f5fce20e", func := "drachm/drachmlaw05.AtomsChecks", spec := "atomsChecks", inPlace := ["internal/bytealg.IndexByteString", "internal/bytealg.IndexString"], unfollowed := true, recurses := true, named := ["drachm/atoms.prefixes", "drachm/atoms.notations", "drachm/frac.tens", "internal/bytealg.MaxLen"], plainKeys := false, apart := false, laid := [("drachm/frac.tens", laid_drachm_frac_tens), ("drachm/atoms.notations", laid_drachm_atoms_notations), ("drachm/atoms.prefixes", laid_drachm_atoms_prefixes)] }
def AtomsChecksSaid : Prop := atomsChecksRow.holds Tryd.pinned (OpenSpec.ofChange atomsChecksSpec)

/-- ITS FALSE NEIGHBOUR: 'it returns false'. Refute it at one input. -/
def atomsChecksWrong : ChangeSpec := { name := "atomsChecks", fn := fun _ => fun
  | [d] => { results := [.lit (.bool false)], args := [d] }
  | _ => none }
def AtomsChecksWrongFalsely : Prop := atomsChecksRow.holds Tryd.pinned (OpenSpec.ofChange atomsChecksWrong)

/-- 'drachmlaw05.AtomsApart': WHATEVER THE INPUT: true; the input reads as it did. -/
def atomsApartSpec : ChangeSpec := { name := "atomsApart", fn := fun _ => fun
  | [d1, d2, d3] => { results := [.lit (.bool true)], args := [d1, d2, d3] }
  | _ => none }
def atomsApartRow : OpenClaim := { program := "ytiinppicdhidhaadoor", sum := "8fcfdc0fbfaf14832128c3d1e47af3ee325de0ed66e7950c7d66f019f5fce20e", func := "drachm/drachmlaw05.AtomsApart", spec := "atomsApart", inPlace := ["internal/bytealg.IndexByteString", "internal/bytealg.IndexString"], unfollowed := true, recurses := true, named := ["drachm/atoms.prefixes", "drachm/atoms.notations", "drachm/frac.tens", "internal/bytealg.MaxLen"], plainKeys := false, apart := false, laid := [("drachm/frac.tens", laid_drachm_frac_tens), ("drachm/atoms.notations", laid_drachm_atoms_notations), ("drachm/atoms.prefixes", laid_drachm_atoms_prefixes)] }
def AtomsApartSaid : Prop := atomsApartRow.holds Tryd.pinned (OpenSpec.ofChange atomsApartSpec)

/-- ITS FALSE NEIGHBOUR: 'it returns false'. Refute it at one input. -/
def atomsApartWrong : ChangeSpec := { name := "atomsApart", fn := fun _ => fun
  | [d1, d2, d3] => { results := [.lit (.bool false)], args := [d1, d2, d3] }
  | _ => none }
def AtomsApartWrongFalsely : Prop := atomsApartRow.holds Tryd.pinned (OpenSpec.ofChange atomsApartWrong)

/-- 'drachmlaw05.AtomsRanks': WHATEVER THE INPUT: true; the input reads as it did. -/
def atomsRanksSpec : ChangeSpec := { name := "atomsRanks", fn := fun _ => fun
  | [d1, d2] => { results := [.lit (.bool true)], args := [d1, d2] }
  | _ => none }
def atomsRanksRow : OpenClaim := { program := "ytiinppicdhidhaadoor", sum := "8fcfdc0fbfaf14832128c3d1e47af3ee325de0ed66e7950c7d66f019f5fce20e", func := "drachm/drachmlaw05.AtomsRanks", spec := "atomsRanks", inPlace := ["internal/bytealg.IndexByteString", "internal/bytealg.IndexString"], unfollowed := true, recurses := true, named := ["drachm/atoms.prefixes", "drachm/atoms.notations", "drachm/frac.tens", "internal/bytealg.MaxLen"], plainKeys := false, apart := false, laid := [("drachm/frac.tens", laid_drachm_frac_tens), ("drachm/atoms.notations", laid_drachm_atoms_notations), ("drachm/atoms.prefixes", laid_drachm_atoms_prefixes)] }
def AtomsRanksSaid : Prop := atomsRanksRow.holds Tryd.pinned (OpenSpec.ofChange atomsRanksSpec)

/-- ITS FALSE NEIGHBOUR: 'it returns false'. Refute it at one input. -/
def atomsRanksWrong : ChangeSpec := { name := "atomsRanks", fn := fun _ => fun
  | [d1, d2] => { results := [.lit (.bool false)], args := [d1, d2] }
  | _ => none }
def AtomsRanksWrongFalsely : Prop := atomsRanksRow.holds Tryd.pinned (OpenSpec.ofChange atomsRanksWrong)

/-- 'drachmlaw05.AtomsEach': WHATEVER THE INPUT: true; the input reads as it did. -/
def atomsEachSpec : ChangeSpec := { name := "atomsEach", fn := fun _ => fun
  | [d1, d2] => { results := [.lit (.bool true)], args := [d1, d2] }
  | _ => none }
def atomsEachRow : OpenClaim := { program := "ytiinppicdhidhaadoor", sum := "8fcfdc0fbfaf14832128c3d1e47af3ee325de0ed66e7950c7d66f019f5fce20e", func := "drachm/drachmlaw05.AtomsEach", spec := "atomsEach", inPlace := ["internal/bytealg.IndexByteString", "internal/bytealg.IndexString"], unfollowed := true, recurses := true, named := ["drachm/atoms.prefixes", "drachm/atoms.notations", "drachm/frac.tens", "internal/bytealg.MaxLen"], plainKeys := false, apart := false, laid := [("drachm/frac.tens", laid_drachm_frac_tens), ("drachm/atoms.notations", laid_drachm_atoms_notations), ("drachm/atoms.prefixes", laid_drachm_atoms_prefixes)] }
def AtomsEachSaid : Prop := atomsEachRow.holds Tryd.pinned (OpenSpec.ofChange atomsEachSpec)

/-- ITS FALSE NEIGHBOUR: 'it returns false'. Refute it at one input. -/
def atomsEachWrong : ChangeSpec := { name := "atomsEach", fn := fun _ => fun
  | [d1, d2] => { results := [.lit (.bool false)], args := [d1, d2] }
  | _ => none }
def AtomsEachWrongFalsely : Prop := atomsEachRow.holds Tryd.pinned (OpenSpec.ofChange atomsEachWrong)

/- THE SECOND FORM. 'bulk': how many values and letters a reading holds, each counted each time it is reached (what is shared counts as often as it is met; a slice's spare places count too). A statement '..UptoSaid' is the law's where the arguments, and the package variables that the reading takes, are together of bulk at most 1048576: NARROWER than '..Said'. Prove '..Said' where nothing that the law and all that it calls make is longer than what came in: it says more and counts as full. Else prove '..UptoSaid'. A law counts once. -/
mutual
def uptoBulk {H : Type} : DataW H → Nat
  | .lit (.string bytes) => bytes.length + 1
  | .lit _ => 1
  | .nil => 1
  | .ptr d => uptoBulk d + 1
  | .slice elems spare => uptoBulkAll elems + uptoBulkAll spare + 1
  | .agg parts => uptoBulkAll parts + 1
  | .iface _ d => uptoBulk d + 1
  | .map entries => uptoBulkEntries entries + 1
  | .held _ => 1
def uptoBulkAll {H : Type} : List (DataW H) → Nat
  | [] => 0
  | d :: r => uptoBulk d + uptoBulkAll r
def uptoBulkEntries {H : Type} : List (Lit × DataW H) → Nat
  | [] => 0
  | x :: r => uptoBulkEntry x + uptoBulkEntries r
def uptoBulkEntry {H : Type} : Lit × DataW H → Nat
  | (.string bytes, d) => bytes.length + uptoBulk d + 1
  | (_, d) => uptoBulk d + 1
 end
def uptoSmall : (H : Type) → List (DataW H) → Bool := fun _ ds => decide (uptoBulkAll ds ≤ 1048576)
def OpenSpec.upto (s : _root_.Go.ChangeSpec) : _root_.Go.OpenSpec := { _root_.Go.OpenSpec.ofChange s with cond := some uptoSmall }

/-- 'drachmlaw05.AtomsTells', WHERE WHAT IT READS IS OF BULK AT MOST 1048576: true; the input reads as it did. -/
def atomsTellsUptoRow : OpenClaim := { program := "ytiinppicdhidhaadoor", sum := "8fcfdc0fbfaf14832128c3d1e47af3ee325de0ed66e7950c7d66f019f5fce20e", func := "drachm/drachmlaw05.AtomsTells", spec := "atomsTells", inPlace := ["internal/bytealg.IndexByteString", "internal/bytealg.IndexString"], unfollowed := true, recurses := true, named := ["drachm/atoms.prefixes", "drachm/atoms.notations", "drachm/frac.tens", "internal/bytealg.MaxLen"], plainKeys := false, apart := false, laid := [("drachm/frac.tens", laid_drachm_frac_tens), ("drachm/atoms.notations", laid_drachm_atoms_notations), ("drachm/atoms.prefixes", laid_drachm_atoms_prefixes)], narrowed := true }
def AtomsTellsUptoSaid : Prop := atomsTellsUptoRow.holds Tryd.pinned (OpenSpec.upto atomsTellsSpec)

/-- 'drachmlaw05.AtomsChecks', WHERE WHAT IT READS IS OF BULK AT MOST 1048576: true; the input reads as it did. -/
def atomsChecksUptoRow : OpenClaim := { program := "ytiinppicdhidhaadoor", sum := "8fcfdc0fbfaf14832128c3d1e47af3ee325de0ed66e7950c7d66f019f5fce20e", func := "drachm/drachmlaw05.AtomsChecks", spec := "atomsChecks", inPlace := ["internal/bytealg.IndexByteString", "internal/bytealg.IndexString"], unfollowed := true, recurses := true, named := ["drachm/atoms.prefixes", "drachm/atoms.notations", "drachm/frac.tens", "internal/bytealg.MaxLen"], plainKeys := false, apart := false, laid := [("drachm/frac.tens", laid_drachm_frac_tens), ("drachm/atoms.notations", laid_drachm_atoms_notations), ("drachm/atoms.prefixes", laid_drachm_atoms_prefixes)], narrowed := true }
def AtomsChecksUptoSaid : Prop := atomsChecksUptoRow.holds Tryd.pinned (OpenSpec.upto atomsChecksSpec)

/-- 'drachmlaw05.AtomsApart', WHERE WHAT IT READS IS OF BULK AT MOST 1048576: true; the input reads as it did. -/
def atomsApartUptoRow : OpenClaim := { program := "ytiinppicdhidhaadoor", sum := "8fcfdc0fbfaf14832128c3d1e47af3ee325de0ed66e7950c7d66f019f5fce20e", func := "drachm/drachmlaw05.AtomsApart", spec := "atomsApart", inPlace := ["internal/bytealg.IndexByteString", "internal/bytealg.IndexString"], unfollowed := true, recurses := true, named := ["drachm/atoms.prefixes", "drachm/atoms.notations", "drachm/frac.tens", "internal/bytealg.MaxLen"], plainKeys := false, apart := false, laid := [("drachm/frac.tens", laid_drachm_frac_tens), ("drachm/atoms.notations", laid_drachm_atoms_notations), ("drachm/atoms.prefixes", laid_drachm_atoms_prefixes)], narrowed := true }
def AtomsApartUptoSaid : Prop := atomsApartUptoRow.holds Tryd.pinned (OpenSpec.upto atomsApartSpec)

/-- 'drachmlaw05.AtomsRanks', WHERE WHAT IT READS IS OF BULK AT MOST 1048576: true; the input reads as it did. -/
def atomsRanksUptoRow : OpenClaim := { program := "ytiinppicdhidhaadoor", sum := "8fcfdc0fbfaf14832128c3d1e47af3ee325de0ed66e7950c7d66f019f5fce20e", func := "drachm/drachmlaw05.AtomsRanks", spec := "atomsRanks", inPlace := ["internal/bytealg.IndexByteString", "internal/bytealg.IndexString"], unfollowed := true, recurses := true, named := ["drachm/atoms.prefixes", "drachm/atoms.notations", "drachm/frac.tens", "internal/bytealg.MaxLen"], plainKeys := false, apart := false, laid := [("drachm/frac.tens", laid_drachm_frac_tens), ("drachm/atoms.notations", laid_drachm_atoms_notations), ("drachm/atoms.prefixes", laid_drachm_atoms_prefixes)], narrowed := true }
def AtomsRanksUptoSaid : Prop := atomsRanksUptoRow.holds Tryd.pinned (OpenSpec.upto atomsRanksSpec)

/-- 'drachmlaw05.AtomsEach', WHERE WHAT IT READS IS OF BULK AT MOST 1048576: true; the input reads as it did. -/
def atomsEachUptoRow : OpenClaim := { program := "ytiinppicdhidhaadoor", sum := "8fcfdc0fbfaf14832128c3d1e47af3ee325de0ed66e7950c7d66f019f5fce20e", func := "drachm/drachmlaw05.AtomsEach", spec := "atomsEach", inPlace := ["internal/bytealg.IndexByteString", "internal/bytealg.IndexString"], unfollowed := true, recurses := true, named := ["drachm/atoms.prefixes", "drachm/atoms.notations", "drachm/frac.tens", "internal/bytealg.MaxLen"], plainKeys := false, apart := false, laid := [("drachm/frac.tens", laid_drachm_frac_tens), ("drachm/atoms.notations", laid_drachm_atoms_notations), ("drachm/atoms.prefixes", laid_drachm_atoms_prefixes)], narrowed := true }
def AtomsEachUptoSaid : Prop := atomsEachUptoRow.holds Tryd.pinned (OpenSpec.upto atomsEachSpec)

end Rows
end Go.Proofs.YtiinppicdhidhaaDoor
