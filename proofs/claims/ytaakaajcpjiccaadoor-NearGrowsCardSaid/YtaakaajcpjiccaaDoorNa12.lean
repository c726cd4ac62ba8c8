/-
  What the row's list gives: the cells of 'atoms.prefixes'.
-/
import Derived.ProofKit
import Derived.OpenShut
import Derived.LaidMore
import Derived.Stop.Joined
import Derived.Deep.DeepHandedRow
import Derived.Lib.LaidTab
import Derived.Test.YtaakaajcpjiccaaDoorRows
import Derived.Test.YtaakaajcpjiccaaDoorNa11
set_option linter.unusedVariables false
set_option linter.unusedSimpArgs false
namespace Go.Proofs.YtaakaajcpjiccaaDoor
open Go.ChangeShapes Go.WideShapes Go.ChangeAt Go.RowKit
open Go.Proofs

def preD {H : Type} (p : PreD) : DataW H := .agg [.agg (p.codes.map fun c => .lit (.string c)), .lit (.int .i64 p.ten)]
theorem laidD_eq {H : Type} : (Rows.laid_drachm_atoms_prefixes : DataW H) = .agg (tabPres.map preD) := rfl
theorem blocks_eq {k : Nat} (f : Nat → List Value) : ∀ (n : Nat) (cs : List Value), cs.length = n * k → (∀ i, i < n → (cs.drop (i * k)).take k = f i) → cs = (List.range n).flatMap f
  | 0, cs, hl, _ => by simp at hl; simp [hl]
  | n + 1, cs, hl, h => by
    have h1 : cs.take (n * k) = (List.range n).flatMap f := blocks_eq (k := k) f n _ (by rw [List.length_take, hl, Nat.add_mul]; omega) (fun i hi => by
      rw [← h i (by omega), List.drop_take, List.take_take, Nat.min_eq_left]
      have : (i + 1) * k ≤ n * k := Nat.mul_le_mul_right k hi
      rw [Nat.add_mul] at this
      omega)
    have h2 := h n (by omega)
    rw [List.take_of_length_le (by rw [List.length_drop, hl, Nat.add_mul]; omega)] at h2
    rw [List.range_succ, List.flatMap_append, ← h1]
    simp only [List.flatMap_cons, List.flatMap_nil, List.append_nil]
    rw [← h2, List.take_append_drop]
section
variable {H : Type} {enc : TypeId × Value → H} {w : World} {base : Nat} {sp : Nat → Bool} {held : Bool} {fuel : Nat} {cs : List Value} {p : List MemPlace}
theorem codes_cells {l : List (List UInt8)} (h : DataW.trod enc Tryd.prog w base sp held fuel 121 cs = some (.agg (l.map fun c => .lit (.string c)), p)) : cs = l.map strV := by
  obtain ⟨xs, m, rfl, hx, hl, hxl, hi⟩ := DataW.trod_array Tryd.underlying121 h
  simp only [Prod.mk.injEq, DataW.agg.injEq] at hx
  have hc : Tryd.prog.cellsOf 9 = 1 := by kernel_rfl
  have hc5 : Tryd.prog.cellsOf 121 = 5 := by kernel_rfl
  rw [hc5] at hl
  have hll : l.length = 5 := by have := congrArg List.length hx.1; simp at this; omega
  have := blocks_eq (k := 1) (fun i => [strV (l.getD i [])]) 5 cs (by omega) (fun i hi5 => by
    have h1 := hi i hi5
    rw [hc, List.getElem?_eq_getElem (by omega)] at h1
    obtain ⟨s, e1, e2, _⟩ := DataW.trod_string Tryd.underlying9 h1
    rw [e1]
    have e3 : (xs.map (·.1))[i]? = some (.lit (.string s.data.toList)) := by
      rw [List.getElem?_map, List.getElem?_eq_getElem (by omega), e2]; rfl
    rw [← hx.1, List.getElem?_map] at e3
    obtain ⟨c, hc1, hc2⟩ := Option.map_eq_some_iff.1 e3
    simp only [DataW.lit.injEq, Lit.string.injEq] at hc2
    rw [List.getD_eq_getElem?_getD, hc1]
    simp [strV, hc2])
  rw [this]
  match l, hll with
  | [a, b, c, d, e], _ => rfl
theorem pre_cells {q : PreD} (h : DataW.trod enc Tryd.prog w base sp held fuel 145 cs = some (preD q, p)) : cs = preV q := by
  obtain ⟨y0, y1, n, hx, hl, h0, h1⟩ := trod_struct2 Tryd.underlying145 h
  simp only [preD, Prod.mk.injEq, DataW.agg.injEq, List.cons.injEq, and_true] at hx
  obtain ⟨⟨hx0, hx1⟩, _⟩ := hx
  have hc5 : Tryd.prog.cellsOf 121 = 5 := by kernel_rfl
  have hc1 : Tryd.prog.cellsOf 3 = 1 := by kernel_rfl
  have hc6 : Tryd.prog.cellsOf 145 = 6 := by kernel_rfl
  simp only [hc5, hc1, List.drop_zero] at h0 h1
  rw [hc6] at hl
  have e0 := codes_cells (l := q.codes) (p := y0.2) (by rw [h0, hx0])
  obtain ⟨z, e1, e2, _⟩ := DataW.trod_int Tryd.underlying3 h1
  rw [e2] at hx1
  simp only [DataW.lit.injEq, Lit.int.injEq, true_and] at hx1
  rw [List.take_of_length_le (by rw [List.length_drop, hl]; omega)] at e1
  rw [← List.take_append_drop 5 cs, e0, e1, ← hx1]
  rfl
theorem pres_cells {l : List PreD} (hll : l.length = 20) (h : DataW.trod enc Tryd.prog w base sp held fuel 147 cs = some (.agg (l.map preD), p)) : cs = presV l := by
  obtain ⟨xs, m, rfl, hx, hl, hxl, hi⟩ := DataW.trod_array Tryd.underlying147 h
  simp only [Prod.mk.injEq, DataW.agg.injEq] at hx
  have hc6 : Tryd.prog.cellsOf 145 = 6 := by kernel_rfl
  have hc120 : Tryd.prog.cellsOf 147 = 120 := by kernel_rfl
  rw [hc120] at hl
  have := blocks_eq (k := 6) (fun i => preV (l.getD i default)) 20 cs (by omega) (fun i hi5 => by
    have h1 := hi i hi5
    rw [hc6, List.getElem?_eq_getElem (by omega)] at h1
    have e3 : (xs.map (·.1))[i]? = some (preD (l.getD i default)) := by
      rw [← hx.1, List.getElem?_map, List.getElem?_eq_getElem (by omega), List.getD_eq_getElem?_getD, List.getElem?_eq_getElem (by omega)]
      rfl
    rw [List.getElem?_map, List.getElem?_eq_getElem (by omega)] at e3
    simp only [Option.map_some, Option.some.injEq] at e3
    exact pre_cells (p := xs[i].2) (by rw [h1, ← e3]))
  rw [this]
  unfold presV
  have e : l = (List.range 20).map (fun i => l.getD i default) := by
    apply List.ext_getElem
    · simp [hll]
    · intro i h1 h2
      simp [List.getD_eq_getElem?_getD, h1]
  conv => rhs; rw [e]
  rw [List.flatMap_map]
end
theorem gPre : Tryd.prog.globalNamed "drachm/atoms.prefixes" = some 0 := by kernel_rfl
theorem gPreType : (Tryd.prog.globals[0]?).map (·.type) = some 147 := by kernel_rfl
theorem laid_of {W : World} (h : laidMetH Tryd.prog [("drachm/atoms.prefixes", Rows.laid_drachm_atoms_prefixes)] W) : Laid W := by
  rw [MakeChecks.laidMetH_plain _ _ _ (by kernel_rfl)] at h
  obtain ⟨ps, ⟨g0, t0, cs0, f0, p0, q0, hg0, ht0, hv0, hd0, _, _⟩, _, _⟩ := h
  obtain rfl := Option.some.inj (gPre.symm.trans hg0)
  obtain rfl := Option.some.inj (gPreType.symm.trans ht0)
  rw [laidD_eq] at hd0
  have hc := pres_cells (by decide) hd0
  intro j u hu
  rw [World.var?_cell hg0 hv0 j, ← Array.getElem?_toList, hc]
  exact hu
end Go.Proofs.YtaakaajcpjiccaaDoor
