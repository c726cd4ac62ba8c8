/-
  Two and four numbers that came in, opened.
-/
import Derived.OpenShut
import Derived.Below
import Derived.Lib.SmallJoins
import Derived.Test.YtaakaajcpjiccaaDoorNa12
set_option linter.unusedVariables false
set_option linter.unusedSimpArgs false
namespace Go.Proofs.YtaakaajcpjiccaaDoor
open Go.ChangeShapes Go.WideShapes Go.ChangeAt Go.RowKit
open Go.ChangeMaps (open_string shut_string)

theorem laidOut : laidOutB Tryd.prog = true := by kernel_rfl
theorem cells_int : Tryd.prog.cellsOf 3 = 1 := by kernel_rfl
theorem cells_pair : Tryd.prog.cellsOf 30 = 2 := by kernel_rfl
theorem cells_quad : Tryd.prog.cellsOf 43 = 4 := by kernel_rfl
section
variable {H : Type} {enc : TypeId × Value → H} {W : World} {base : Nat} {spare : Nat → Bool} {held : Bool}
set_option maxRecDepth 100000 in
theorem open_pair {r : Reach} {b0 : Nat} {v : Value} {d : DataW H} {p : List MemPlace} (hv : Value.okWide Tryd.prog W r b0 30 v) (h : DataW.Trod enc Tryd.prog W base spare held 30 v d p) :
    ∃ (a b : Int), v = .agg #[.int .i64 a, .int .i64 b] := by
  simp only [Value.okWide, Tryd.underlying30] at hv
  obtain ⟨cs, rfl, hsz, _⟩ := hv
  obtain ⟨fuel, hf⟩ := h
  obtain ⟨xs, m, _, _, hl, hx, hi⟩ := DataW.trod_array Tryd.underlying30 hf
  obtain ⟨l⟩ := cs
  simp only [Value.cells] at hi hl
  rw [cells_pair] at hl
  have h0 := hi 0 (by omega)
  have h1 := hi 1 (by omega)
  simp only [cells_int] at h0 h1
  match xs, hx, l, hl with
  | [y0, y1], _, [c0, c1], _ =>
    obtain ⟨z0, e0, _, _⟩ := DataW.trod_int Tryd.underlying3 h0
    obtain ⟨z1, e1, _, _⟩ := DataW.trod_int Tryd.underlying3 h1
    simp at e0 e1
    subst e0 e1
    exact ⟨z0, z1, rfl⟩
set_option maxRecDepth 100000 in
theorem open_quad {r : Reach} {b0 : Nat} {v : Value} {d : DataW H} {p : List MemPlace} (hv : Value.okWide Tryd.prog W r b0 43 v) (h : DataW.Trod enc Tryd.prog W base spare held 43 v d p) :
    ∃ (a b c e : Int), v = .agg #[.int .i64 a, .int .i64 b, .int .i64 c, .int .i64 e] := by
  simp only [Value.okWide, Tryd.underlying43] at hv
  obtain ⟨cs, rfl, hsz, _⟩ := hv
  obtain ⟨fuel, hf⟩ := h
  obtain ⟨xs, m, _, _, hl, hx, hi⟩ := DataW.trod_array Tryd.underlying43 hf
  obtain ⟨l⟩ := cs
  simp only [Value.cells] at hi hl
  rw [cells_quad] at hl
  have h0 := hi 0 (by omega)
  have h1 := hi 1 (by omega)
  have h2 := hi 2 (by omega)
  have h3 := hi 3 (by omega)
  simp only [cells_int] at h0 h1 h2 h3
  match xs, hx, l, hl with
  | [y0, y1, y2, y3], _, [c0, c1, c2, c3], _ =>
    obtain ⟨z0, e0, _, _⟩ := DataW.trod_int Tryd.underlying3 h0
    obtain ⟨z1, e1, _, _⟩ := DataW.trod_int Tryd.underlying3 h1
    obtain ⟨z2, e2, _, _⟩ := DataW.trod_int Tryd.underlying3 h2
    obtain ⟨z3, e3, _, _⟩ := DataW.trod_int Tryd.underlying3 h3
    simp at e0 e1 e2 e3
    subst e0 e1 e2 e3
    exact ⟨z0, z1, z2, z3, rfl⟩
end
end Go.Proofs.YtaakaajcpjiccaaDoor
