/-
  DERIVED. GIVEN WITH THE SEED: THE PROGRAM's TIES (one call each: nine closed facts by the kernel) AND EACH ROW's TIE, after the 31st guide's Derived/Test/Toyas{Tie, Card}.lean. No idea stands in it: it is a product of the set-up. Laid BY PROGRAM, IN A SANDBOX (cutbox-door.mjs). By AI agents, Wed Nov 11 2026. No macro, syntax, notation, axiom, sorry.
-/
import Derived.Test.YtiinppicdhidhaaDoorRows
import Derived.LaidByTextLater
import Derived.SevenTiedAt
import Derived.LaidSub
import Derived.LaidOnce
namespace Go.Proofs.YtiinppicdhidhaaDoor
open Go
set_option maxRecDepth 100000
theorem seatTie1 : Tryd.prog.laidByTextLater [("drachm/frac.tens", Rows.laid_drachm_frac_tens), ("drachm/atoms.notations", Rows.laid_drachm_atoms_notations), ("drachm/atoms.prefixes", Rows.laid_drachm_atoms_prefixes)] [.data, .data, .widerDeep] true :=
  Program.laidByTextLater_by_one 64 8 121 (by kernel_rfl) (by kernel_rfl) (by kernel_rfl) (by kernel_rfl) (by kernel_rfl) (by kernel_rfl) (fun _ _ => by kernel_rfl)
theorem noOwnUnsafe : Tryd.pinned.checked.prog.headLifts.contains "ownunsafe" = false := by kernel_rfl
theorem tie : Tryd.prog.laidByTextLater [("drachm/frac.tens", Rows.laid_drachm_frac_tens), ("drachm/atoms.notations", Rows.laid_drachm_atoms_notations), ("drachm/atoms.prefixes", Rows.laid_drachm_atoms_prefixes)] [.data, .data, .widerDeep] true :=
  Program.laidByTextLater.sub seatTie1 ["drachm/frac.tens", "drachm/atoms.notations", "drachm/atoms.prefixes"] (by kernel_rfl) (by kernel_rfl)
theorem atomsTells_row_tie : Rows.atomsTellsRow.laidByTextAt .later Tryd.pinned [.data, .data, .widerDeep] true :=
  OpenClaim.laidByTextAt_later rfl rfl tie noOwnUnsafe
theorem atomsChecks_row_tie : Rows.atomsChecksRow.laidByTextAt .later Tryd.pinned [.data, .data, .widerDeep] true :=
  OpenClaim.laidByTextAt_later rfl rfl tie noOwnUnsafe
theorem atomsApart_row_tie : Rows.atomsApartRow.laidByTextAt .later Tryd.pinned [.data, .data, .widerDeep] true :=
  OpenClaim.laidByTextAt_later rfl rfl tie noOwnUnsafe
theorem atomsRanks_row_tie : Rows.atomsRanksRow.laidByTextAt .later Tryd.pinned [.data, .data, .widerDeep] true :=
  OpenClaim.laidByTextAt_later rfl rfl tie noOwnUnsafe
theorem atomsEach_row_tie : Rows.atomsEachRow.laidByTextAt .later Tryd.pinned [.data, .data, .widerDeep] true :=
  OpenClaim.laidByTextAt_later rfl rfl tie noOwnUnsafe
theorem atomsTellsUpto_row_tie : Rows.atomsTellsUptoRow.laidByTextAt .later Tryd.pinned [.data, .data, .widerDeep] true :=
  OpenClaim.laidByTextAt_later rfl rfl tie noOwnUnsafe
theorem atomsChecksUpto_row_tie : Rows.atomsChecksUptoRow.laidByTextAt .later Tryd.pinned [.data, .data, .widerDeep] true :=
  OpenClaim.laidByTextAt_later rfl rfl tie noOwnUnsafe
theorem atomsApartUpto_row_tie : Rows.atomsApartUptoRow.laidByTextAt .later Tryd.pinned [.data, .data, .widerDeep] true :=
  OpenClaim.laidByTextAt_later rfl rfl tie noOwnUnsafe
theorem atomsRanksUpto_row_tie : Rows.atomsRanksUptoRow.laidByTextAt .later Tryd.pinned [.data, .data, .widerDeep] true :=
  OpenClaim.laidByTextAt_later rfl rfl tie noOwnUnsafe
theorem atomsEachUpto_row_tie : Rows.atomsEachUptoRow.laidByTextAt .later Tryd.pinned [.data, .data, .widerDeep] true :=
  OpenClaim.laidByTextAt_later rfl rfl tie noOwnUnsafe
end Go.Proofs.YtiinppicdhidhaaDoor
