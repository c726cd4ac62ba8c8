/-
  NARROWER THAN 'FOR EVERY INPUT', by the rows' own cells (each row's printed sentence says how): NearTells: laid · NearWalks: laid · NearBoth: laid · NearGrows: laid · NearOwn: laid.
  DERIVED. THE GIVEN ROWS OF THIS SEAT. 5 by the template 'for every input the law returns true; each argument reads behind the call as it read before'; 0 by the template 'total and deterministic' (their statements: YtaakaajcpjiccaaDoorTotals.lean).
  GIVEN WITH THE SEED: the statements are not yours to turn. If you find one false, say at which input.
  Laid BY PROGRAM, IN A SANDBOX (cutbox-rows.mjs): the forced cells as the released guide's own fill.sh prints them over the translation f4371eaae03dfbad… (all of the seat's roots in one cut). By AI agents, Wed Nov 11 2026. No macro, syntax, notation, axiom, sorry.
-/
import Derived.Test.YtaakaajcpjiccaaDoorChecked
import GoSem.Claim
import GoSem.ClaimJoined
import GoSem.ClaimMapViews
import Derived.JoinedTies
import Derived.KernelRfl
namespace Go.Proofs.YtaakaajcpjiccaaDoor
/- THE CELL 'sum', in the pinned program and in every row, IS THE sha256 OF THE DUMP (.gsa) THAT YtaakaajcpjiccaaDoorProg.lean LOADS. Nothing in Lean hashes anything: it is a label: what it is worth is what the hold of that sum in a sandbox is worth. -/
noncomputable def Tryd.pinned : Pinned := { name := "ytaakaajcpjiccaadoor", sum := "f4371eaae03dfbadda40942249451e4764a723a5061769a25c6d9f5382ee25de", checked := Tryd.checked }
namespace Rows
def none {H : Type} : Left H := { results := [], args := [] }

/- WHAT THE LISTED PACKAGE-LEVEL VARIABLES READ AS WHEN THE CALL BEGINS. Each datum BY PROGRAM (the guide's laid-datum.mjs) off the statement by which the dump's own 'gosem.cut.vars' lays the variable. In a bare row this is a premise. The card (YtaakaajcpjiccaaDoorCards.lean) ties it to the program's text. -/
def laid_drachm_atoms_prefixes {H : Type} : DataW H := .agg [.agg [.agg [.lit (.string [89]), .lit (.string [89, 65]), .lit (.string [89]), .lit (.string []), .lit (.string [89])], .lit (.int .i64 24)], .agg [.agg [.lit (.string [90]), .lit (.string [90, 65]), .lit (.string [90]), .lit (.string []), .lit (.string [90])], .lit (.int .i64 21)], .agg [.agg [.lit (.string [69]), .lit (.string [69, 88]), .lit (.string [69]), .lit (.string [69]), .lit (.string [69])], .lit (.int .i64 18)], .agg [.agg [.lit (.string [80]), .lit (.string [80, 84]), .lit (.string [80]), .lit (.string [80, 69]), .lit (.string [80])], .lit (.int .i64 15)], .agg [.agg [.lit (.string [84]), .lit (.string [84, 82]), .lit (.string [84]), .lit (.string [84]), .lit (.string [84])], .lit (.int .i64 12)], .agg [.agg [.lit (.string [71]), .lit (.string [71, 65]), .lit (.string [71]), .lit (.string [71]), .lit (.string [71])], .lit (.int .i64 9)], .agg [.agg [.lit (.string [77]), .lit (.string [77, 65]), .lit (.string [77]), .lit (.string [77, 65]), .lit (.string [77])], .lit (.int .i64 6)], .agg [.agg [.lit (.string [107]), .lit (.string [75]), .lit (.string [107]), .lit (.string [75]), .lit (.string [107])], .lit (.int .i64 3)], .agg [.agg [.lit (.string [104]), .lit (.string [72]), .lit (.string [104]), .lit (.string [72]), .lit (.string [104])], .lit (.int .i64 2)], .agg [.agg [.lit (.string [100, 97]), .lit (.string [68, 65]), .lit (.string [100, 97]), .lit (.string [68, 65]), .lit (.string [100, 97])], .lit (.int .i64 1)], .agg [.agg [.lit (.string [100]), .lit (.string [68]), .lit (.string [100]), .lit (.string [68]), .lit (.string [100])], .lit (.int .i64 (-1))], .agg [.agg [.lit (.string [99]), .lit (.string [67]), .lit (.string [99]), .lit (.string [67]), .lit (.string [99])], .lit (.int .i64 (-2))], .agg [.agg [.lit (.string [109]), .lit (.string [77]), .lit (.string [109]), .lit (.string [77]), .lit (.string [109])], .lit (.int .i64 (-3))], .agg [.agg [.lit (.string [117]), .lit (.string [85]), .lit (.string [117]), .lit (.string [85]), .lit (.string [117])], .lit (.int .i64 (-6))], .agg [.agg [.lit (.string [110]), .lit (.string [78]), .lit (.string [110]), .lit (.string [78]), .lit (.string [110])], .lit (.int .i64 (-9))], .agg [.agg [.lit (.string [112]), .lit (.string [80]), .lit (.string [112]), .lit (.string [80]), .lit (.string [112])], .lit (.int .i64 (-12))], .agg [.agg [.lit (.string [102]), .lit (.string [70]), .lit (.string [102]), .lit (.string [70]), .lit (.string [102])], .lit (.int .i64 (-15))], .agg [.agg [.lit (.string [97]), .lit (.string [65]), .lit (.string [97]), .lit (.string [65]), .lit (.string [97])], .lit (.int .i64 (-18))], .agg [.agg [.lit (.string [122]), .lit (.string [90, 79]), .lit (.string [122]), .lit (.string []), .lit (.string [122])], .lit (.int .i64 (-21))], .agg [.agg [.lit (.string [121]), .lit (.string [89, 79]), .lit (.string [121]), .lit (.string []), .lit (.string [121])], .lit (.int .i64 (-24))]]

/-- 'drachmlaw19.NearTells': WHATEVER THE INPUT: true; the input reads as it did. -/
def nearTellsSpec : ChangeSpec := { name := "nearTells", fn := fun _ => fun
  | [d1, d2, d3] => { results := [.lit (.bool true)], args := [d1, d2, d3] }
  | _ => none }
def nearTellsRow : OpenClaim := { program := "ytaakaajcpjiccaadoor", sum := "f4371eaae03dfbadda40942249451e4764a723a5061769a25c6d9f5382ee25de", func := "drachm/drachmlaw19.NearTells", spec := "nearTells", unfollowed := true, recurses := true, named := ["drachm/atoms.prefixes"], apart := false, laid := [("drachm/atoms.prefixes", laid_drachm_atoms_prefixes)] }
def NearTellsSaid : Prop := nearTellsRow.holds Tryd.pinned (OpenSpec.ofChange nearTellsSpec)

/-- ITS FALSE NEIGHBOUR: 'it returns false'. Refute it at one input. -/
def nearTellsWrong : ChangeSpec := { name := "nearTells", fn := fun _ => fun
  | [d1, d2, d3] => { results := [.lit (.bool false)], args := [d1, d2, d3] }
  | _ => none }
def NearTellsWrongFalsely : Prop := nearTellsRow.holds Tryd.pinned (OpenSpec.ofChange nearTellsWrong)

/-- 'drachmlaw19.NearWalks': WHATEVER THE INPUT: true; the input reads as it did. -/
def nearWalksSpec : ChangeSpec := { name := "nearWalks", fn := fun _ => fun
  | [d1, d2, d3] => { results := [.lit (.bool true)], args := [d1, d2, d3] }
  | _ => none }
def nearWalksRow : OpenClaim := { program := "ytaakaajcpjiccaadoor", sum := "f4371eaae03dfbadda40942249451e4764a723a5061769a25c6d9f5382ee25de", func := "drachm/drachmlaw19.NearWalks", spec := "nearWalks", unfollowed := true, recurses := true, named := ["drachm/atoms.prefixes"], apart := false, laid := [("drachm/atoms.prefixes", laid_drachm_atoms_prefixes)] }
def NearWalksSaid : Prop := nearWalksRow.holds Tryd.pinned (OpenSpec.ofChange nearWalksSpec)

/-- ITS FALSE NEIGHBOUR: 'it returns false'. Refute it at one input. -/
def nearWalksWrong : ChangeSpec := { name := "nearWalks", fn := fun _ => fun
  | [d1, d2, d3] => { results := [.lit (.bool false)], args := [d1, d2, d3] }
  | _ => none }
def NearWalksWrongFalsely : Prop := nearWalksRow.holds Tryd.pinned (OpenSpec.ofChange nearWalksWrong)

/-- 'drachmlaw19.NearBoth': WHATEVER THE INPUT: true; the input reads as it did. -/
def nearBothSpec : ChangeSpec := { name := "nearBoth", fn := fun _ => fun
  | [d1, d2, d3] => { results := [.lit (.bool true)], args := [d1, d2, d3] }
  | _ => none }
def nearBothRow : OpenClaim := { program := "ytaakaajcpjiccaadoor", sum := "f4371eaae03dfbadda40942249451e4764a723a5061769a25c6d9f5382ee25de", func := "drachm/drachmlaw19.NearBoth", spec := "nearBoth", unfollowed := true, recurses := true, named := ["drachm/atoms.prefixes"], apart := false, laid := [("drachm/atoms.prefixes", laid_drachm_atoms_prefixes)] }
def NearBothSaid : Prop := nearBothRow.holds Tryd.pinned (OpenSpec.ofChange nearBothSpec)

/-- ITS FALSE NEIGHBOUR: 'it returns false'. Refute it at one input. -/
def nearBothWrong : ChangeSpec := { name := "nearBoth", fn := fun _ => fun
  | [d1, d2, d3] => { results := [.lit (.bool false)], args := [d1, d2, d3] }
  | _ => none }
def NearBothWrongFalsely : Prop := nearBothRow.holds Tryd.pinned (OpenSpec.ofChange nearBothWrong)

/-- 'drachmlaw19.NearGrows': WHATEVER THE INPUT: true; the input reads as it did. -/
def nearGrowsSpec : ChangeSpec := { name := "nearGrows", fn := fun _ => fun
  | [d1, d2, d3] => { results := [.lit (.bool true)], args := [d1, d2, d3] }
  | _ => none }
def nearGrowsRow : OpenClaim := { program := "ytaakaajcpjiccaadoor", sum := "f4371eaae03dfbadda40942249451e4764a723a5061769a25c6d9f5382ee25de", func := "drachm/drachmlaw19.NearGrows", spec := "nearGrows", unfollowed := true, recurses := true, named := ["drachm/atoms.prefixes"], apart := false, laid := [("drachm/atoms.prefixes", laid_drachm_atoms_prefixes)] }
def NearGrowsSaid : Prop := nearGrowsRow.holds Tryd.pinned (OpenSpec.ofChange nearGrowsSpec)

/-- ITS FALSE NEIGHBOUR: 'it returns false'. Refute it at one input. -/
def nearGrowsWrong : ChangeSpec := { name := "nearGrows", fn := fun _ => fun
  | [d1, d2, d3] => { results := [.lit (.bool false)], args := [d1, d2, d3] }
  | _ => none }
def NearGrowsWrongFalsely : Prop := nearGrowsRow.holds Tryd.pinned (OpenSpec.ofChange nearGrowsWrong)

/-- 'drachmlaw19.NearOwn': WHATEVER THE INPUT: true; the input reads as it did. -/
def nearOwnSpec : ChangeSpec := { name := "nearOwn", fn := fun _ => fun
  | [d1, d2, d3] => { results := [.lit (.bool true)], args := [d1, d2, d3] }
  | _ => none }
def nearOwnRow : OpenClaim := { program := "ytaakaajcpjiccaadoor", sum := "f4371eaae03dfbadda40942249451e4764a723a5061769a25c6d9f5382ee25de", func := "drachm/drachmlaw19.NearOwn", spec := "nearOwn", unfollowed := true, recurses := true, named := ["drachm/atoms.prefixes"], apart := false, laid := [("drachm/atoms.prefixes", laid_drachm_atoms_prefixes)] }
def NearOwnSaid : Prop := nearOwnRow.holds Tryd.pinned (OpenSpec.ofChange nearOwnSpec)

/-- ITS FALSE NEIGHBOUR: 'it returns false'. Refute it at one input. -/
def nearOwnWrong : ChangeSpec := { name := "nearOwn", fn := fun _ => fun
  | [d1, d2, d3] => { results := [.lit (.bool false)], args := [d1, d2, d3] }
  | _ => none }
def NearOwnWrongFalsely : Prop := nearOwnRow.holds Tryd.pinned (OpenSpec.ofChange nearOwnWrong)

/- THE SECOND FORM. 'bulk': how many values and letters a reading holds, each counted each time it is reached (what is shared counts as often as it is met; a slice's spare places count too). A statement '..UptoSaid' is the law's where the arguments, and the package variables that the reading takes, are together of bulk at most 1048576: NARROWER than '..Said'. Prove '..Said' where nothing that the law and all that it calls make is longer than what came in: it says more and counts as full. Else prove '..UptoSaid'. A law counts once. -/
mutual
def uptoBulk {H : Type} : DataW H → Nat
  | .lit (.string bytes) => bytes.length + 1
  | .lit _ => 1
  | .nil => 1
  | .ptr d => uptoBulk d + 1
  | .slice elems spare => uptoBulkAll elems + uptoBulkAll spare + 1
  | .agg parts => uptoBulkAll parts + 1
  | .iface _ d => uptoBulk d + 1
  | .map entries => uptoBulkEntries entries + 1
  | .held _ => 1
def uptoBulkAll {H : Type} : List (DataW H) → Nat
  | [] => 0
  | d :: r => uptoBulk d + uptoBulkAll r
def uptoBulkEntries {H : Type} : List (Lit × DataW H) → Nat
  | [] => 0
  | x :: r => uptoBulkEntry x + uptoBulkEntries r
def uptoBulkEntry {H : Type} : Lit × DataW H → Nat
  | (.string bytes, d) => bytes.length + uptoBulk d + 1
  | (_, d) => uptoBulk d + 1
 end
def uptoSmall : (H : Type) → List (DataW H) → Bool := fun _ ds => decide (uptoBulkAll ds ≤ 1048576)
def OpenSpec.upto (s : _root_.Go.ChangeSpec) : _root_.Go.OpenSpec := { _root_.Go.OpenSpec.ofChange s with cond := some uptoSmall }

/-- 'drachmlaw19.NearTells', WHERE WHAT IT READS IS OF BULK AT MOST 1048576: true; the input reads as it did. -/
def nearTellsUptoRow : OpenClaim := { program := "ytaakaajcpjiccaadoor", sum := "f4371eaae03dfbadda40942249451e4764a723a5061769a25c6d9f5382ee25de", func := "drachm/drachmlaw19.NearTells", spec := "nearTells", unfollowed := true, recurses := true, named := ["drachm/atoms.prefixes"], apart := false, laid := [("drachm/atoms.prefixes", laid_drachm_atoms_prefixes)], narrowed := true }
def NearTellsUptoSaid : Prop := nearTellsUptoRow.holds Tryd.pinned (OpenSpec.upto nearTellsSpec)

/-- 'drachmlaw19.NearWalks', WHERE WHAT IT READS IS OF BULK AT MOST 1048576: true; the input reads as it did. -/
def nearWalksUptoRow : OpenClaim := { program := "ytaakaajcpjiccaadoor", sum := "f4371eaae03dfbadda40942249451e4764a723a5061769a25c6d9f5382ee25de", func := "drachm/drachmlaw19.NearWalks", spec := "nearWalks", unfollowed := true, recurses := true, named := ["drachm/atoms.prefixes"], apart := false, laid := [("drachm/atoms.prefixes", laid_drachm_atoms_prefixes)], narrowed := true }
def NearWalksUptoSaid : Prop := nearWalksUptoRow.holds Tryd.pinned (OpenSpec.upto nearWalksSpec)

/-- 'drachmlaw19.NearBoth', WHERE WHAT IT READS IS OF BULK AT MOST 1048576: true; the input reads as it did. -/
def nearBothUptoRow : OpenClaim := { program := "ytaakaajcpjiccaadoor", sum := "f4371eaae03dfbadda40942249451e4764a723a5061769a25c6d9f5382ee25de", func := "drachm/drachmlaw19.NearBoth", spec := "nearBoth", unfollowed := true, recurses := true, named := ["drachm/atoms.prefixes"], apart := false, laid := [("drachm/atoms.prefixes", laid_drachm_atoms_prefixes)], narrowed := true }
def NearBothUptoSaid : Prop := nearBothUptoRow.holds Tryd.pinned (OpenSpec.upto nearBothSpec)

/-- 'drachmlaw19.NearGrows', WHERE WHAT IT READS IS OF BULK AT MOST 1048576: true; the input reads as it did. -/
def nearGrowsUptoRow : OpenClaim := { program := "ytaakaajcpjiccaadoor", sum := "f4371eaae03dfbadda40942249451e4764a723a5061769a25c6d9f5382ee25de", func := "drachm/drachmlaw19.NearGrows", spec := "nearGrows", unfollowed := true, recurses := true, named := ["drachm/atoms.prefixes"], apart := false, laid := [("drachm/atoms.prefixes", laid_drachm_atoms_prefixes)], narrowed := true }
def NearGrowsUptoSaid : Prop := nearGrowsUptoRow.holds Tryd.pinned (OpenSpec.upto nearGrowsSpec)

/-- 'drachmlaw19.NearOwn', WHERE WHAT IT READS IS OF BULK AT MOST 1048576: true; the input reads as it did. -/
def nearOwnUptoRow : OpenClaim := { program := "ytaakaajcpjiccaadoor", sum := "f4371eaae03dfbadda40942249451e4764a723a5061769a25c6d9f5382ee25de", func := "drachm/drachmlaw19.NearOwn", spec := "nearOwn", unfollowed := true, recurses := true, named := ["drachm/atoms.prefixes"], apart := false, laid := [("drachm/atoms.prefixes", laid_drachm_atoms_prefixes)], narrowed := true }
def NearOwnUptoSaid : Prop := nearOwnUptoRow.holds Tryd.pinned (OpenSpec.upto nearOwnSpec)

end Rows
end Go.Proofs.YtaakaajcpjiccaaDoor
