/-
  What the row's list gives: the cells of 'frac.tens', 'atoms.notations', 'atoms.prefixes'.
-/
import Derived.Test.YtiinppicdhidhaaDoorLa
import Derived.Test.YtiinppicdhidhaaDoorAk
set_option linter.unusedVariables false
set_option linter.unusedSimpArgs false
namespace Go.Proofs.YtiinppicdhidhaaDoor
open Go.ChangeShapes Go.WideShapes Go.ChangeAt Go.RowKit
open Go.Proofs

section
variable {H : Type} {enc : TypeId × Value → H} {w : World} {base : Nat} {sp : Nat → Bool} {held : Bool} {fuel : Nat} {cs : List Value} {p : List MemPlace}
theorem tens_cells (h : DataW.trod enc Tryd.prog w base sp held fuel 96 cs = some (.agg [.lit (.int .i64 2), .lit (.int .i64 5)], p)) : cs = [.int .i64 2, .int .i64 5] := by
  obtain ⟨xs, m, rfl, hx, hl, hxl, hi⟩ := DataW.trod_array Tryd.underlying96 h
  simp only [Prod.mk.injEq, DataW.agg.injEq] at hx
  have hc : Tryd.prog.cellsOf 2 = 1 := by kernel_rfl
  have hc2 : Tryd.prog.cellsOf 96 = 2 := by kernel_rfl
  rw [hc2] at hl
  have := blocks_eq (k := 1) (fun i => [Value.int .i64 ([(2 : Int), 5].getD i 0)]) 2 cs (by omega) (fun i hi2 => by
    have h1 := hi i hi2
    rw [hc, List.getElem?_eq_getElem (by omega)] at h1
    obtain ⟨z, e1, e2, _⟩ := DataW.trod_int Tryd.underlying2 h1
    rw [e1]
    have e3 : (xs.map (·.1))[i]? = some (.lit (.int .i64 z)) := by
      rw [List.getElem?_map, List.getElem?_eq_getElem (by omega), e2]; rfl
    rw [← hx.1] at e3
    have : i = 0 ∨ i = 1 := by omega
    rcases this with rfl | rfl
    · simp at e3; rw [← e3]; rfl
    · simp at e3; rw [← e3]; rfl)
  rw [this]
  rfl
end
theorem gTens : Tryd.prog.globalNamed "drachm/frac.tens" = some 2 := by kernel_rfl
theorem gTensType : (Tryd.prog.globals[2]?).map (·.type) = some 96 := by kernel_rfl
theorem gNote : Tryd.prog.globalNamed "drachm/atoms.notations" = some 1 := by kernel_rfl
theorem gNoteType : (Tryd.prog.globals[1]?).map (·.type) = some 30 := by kernel_rfl
def noteLs : List (List UInt8) := [[115, 101, 110, 115, 105, 116, 105, 118, 101], [102, 111, 108, 100, 101, 100], [115, 104, 111, 119, 110], [105, 115, 111], [97, 110, 115, 105]]
theorem noteD_eq {H : Type} : (Rows.laid_drachm_atoms_notations : DataW H) = .agg (noteLs.map fun c => .lit (.string c)) := rfl
theorem laid3_of {W : World} (h : laidMetH Tryd.prog [("drachm/frac.tens", Rows.laid_drachm_frac_tens), ("drachm/atoms.notations", Rows.laid_drachm_atoms_notations), ("drachm/atoms.prefixes", Rows.laid_drachm_atoms_prefixes)] W) : Laid W ∧ NotesAt W ∧ TensAt W := by
  rw [MakeChecks.laidMetH_plain _ _ _ (by kernel_rfl)] at h
  obtain ⟨ps, ⟨g0, t0, cs0, f0, p0, q0, hg0, ht0, hv0, hd0, ⟨g1, t1, cs1, f1, p1, q1, hg1, ht1, hv1, hd1, ⟨g2, t2, cs2, f2, p2, q2, hg2, ht2, hv2, hd2, _, _⟩, _⟩, _⟩, _, _⟩ := h
  obtain rfl := Option.some.inj (gTens.symm.trans hg0)
  obtain rfl := Option.some.inj (gTensType.symm.trans ht0)
  obtain rfl := Option.some.inj (gNote.symm.trans hg1)
  obtain rfl := Option.some.inj (gNoteType.symm.trans ht1)
  obtain rfl := Option.some.inj (gPre.symm.trans hg2)
  obtain rfl := Option.some.inj (gPreType.symm.trans ht2)
  rw [laidD_eq] at hd2
  rw [noteD_eq] at hd1
  have hc2 := pres_cells (by decide) hd2
  have hc1 := codes_cells hd1
  have hc0 := tens_cells hd0
  refine ⟨fun j u hu => ?_, fun i hi => ?_, ?_, ?_⟩
  · rw [World.var?_cell hg2 hv2 j, ← Array.getElem?_toList, hc2]
    exact hu
  · rw [World.var?_cell hg1 hv1 i, ← Array.getElem?_toList, hc1]
    rcases i with _ | _ | _ | _ | _ | i <;> first | rfl | omega
  · rw [World.var?_cell hg0 hv0 0, ← Array.getElem?_toList, hc0]
    rfl
  · rw [World.var?_cell hg0 hv0 1, ← Array.getElem?_toList, hc0]
    rfl
end Go.Proofs.YtiinppicdhidhaaDoor
