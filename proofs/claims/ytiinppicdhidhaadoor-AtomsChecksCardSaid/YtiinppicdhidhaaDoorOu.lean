/-
  Three turns that came in, opened.
-/
import Derived.Test.YtiinppicdhidhaaDoorOt
import Derived.Test.YtiinppicdhidhaaDoorAc
set_option linter.unusedVariables false
set_option linter.unusedSimpArgs false
namespace Go.Proofs.YtiinppicdhidhaaDoor
open Go.ChangeShapes Go.WideShapes Go.ChangeAt Go.RowKit
open Go.ChangeMaps (open_string shut_string)

section
variable {H : Type} {enc : TypeId × Value → H} {W : World} {base : Nat} {spare : Nat → Bool} {held : Bool}
theorem cells_turns : Tryd.prog.cellsOf 41 = 12 := by kernel_rfl
set_option maxRecDepth 100000 in
theorem open_turns {r : Reach} {b0 : Nat} {v : Value} {d : DataW H} {p : List MemPlace} (hv : Value.okWide Tryd.prog W r b0 41 v) (h : DataW.Trod enc Tryd.prog W base spare held 41 v d p) :
    ∃ (x0 x1 x2 : TurnD), v = .agg #[.int .i64 x0.how, .int .i64 x0.at_, .int .i64 x0.nn, .string x0.text, .int .i64 x1.how, .int .i64 x1.at_, .int .i64 x1.nn, .string x1.text, .int .i64 x2.how, .int .i64 x2.at_, .int .i64 x2.nn, .string x2.text] ∧ TurnFine x0 ∧ TurnFine x1 ∧ TurnFine x2 := by
  simp only [Value.okWide, Tryd.underlying41] at hv
  obtain ⟨cs, rfl, hsz, _⟩ := hv
  obtain ⟨fuel, hf⟩ := h
  obtain ⟨xs, m, _, _, hl, hx, hi⟩ := DataW.trod_array Tryd.underlying41 hf
  obtain ⟨l⟩ := cs
  simp only [Value.cells] at hi hl
  rw [cells_turns] at hl
  have h0 := hi 0 (by omega)
  have h1 := hi 1 (by omega)
  have h2 := hi 2 (by omega)
  match xs, hx with
  | [y0, y1, y2], _ =>
    simp only [cells_turn] at h0 h1 h2
    obtain ⟨a0, a1, a2, a3, e, ha⟩ := turn_of h0
    obtain ⟨b0, b1, b2, b3, e2, hb⟩ := turn_of h1
    obtain ⟨c0, c1, c2, c3, e3, hc⟩ := turn_of h2
    match l, hl with
    | [d0, d1, d2, d3, d4, d5, d6, d7, d8, d9, d10, d11], _ =>
      simp at e e2 e3
      obtain ⟨rfl, rfl, rfl, rfl⟩ := e
      obtain ⟨rfl, rfl, rfl, rfl⟩ := e2
      obtain ⟨rfl, rfl, rfl, rfl⟩ := e3
      exact ⟨⟨a0, a1, a2, a3⟩, ⟨b0, b1, b2, b3⟩, ⟨c0, c1, c2, c3⟩, rfl, ha, hb, hc⟩
end
end Go.Proofs.YtiinppicdhidhaaDoor
