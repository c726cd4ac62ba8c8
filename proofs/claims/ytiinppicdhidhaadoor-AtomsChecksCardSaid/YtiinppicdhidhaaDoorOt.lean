/-
  A turn that came in, opened.
-/
import Derived.Test.YtiinppicdhidhaaDoorSq
import Derived.OpenShut
import Derived.Lib.SmallJoins
set_option linter.unusedVariables false
set_option linter.unusedSimpArgs false
namespace Go.Proofs.YtiinppicdhidhaaDoor
open Go.ChangeShapes Go.WideShapes Go.ChangeAt Go.RowKit
open Go.ChangeMaps (open_string shut_string)

theorem laidOut : laidOutB Tryd.prog = true := by kernel_rfl
section
variable {H : Type} {enc : TypeId × Value → H} {W : World} {base : Nat} {spare : Nat → Bool} {held : Bool}
theorem wf_i64 {z : Int} (h : (Lit.int .i64 z).wf = true) : -9223372036854775808 ≤ z ∧ z ≤ 9223372036854775807 := by
  have e1 : IntKind.i64.min = -9223372036854775808 := by kernel_rfl
  have e2 : IntKind.i64.max = 9223372036854775807 := by kernel_rfl
  simp [Lit.wf] at h
  omega
theorem cells_turn : Tryd.prog.cellsOf 40 = 4 := by kernel_rfl
theorem cells_int : Tryd.prog.cellsOf 3 = 1 := by kernel_rfl
set_option maxRecDepth 100000 in
theorem turn_of {fuel : Nat} {cs : List Value} {x : DataW H × List MemPlace} (h : DataW.trod enc Tryd.prog W base spare held fuel 40 cs = some x) :
    ∃ (how at_ n : Int) (text : ByteArray), cs = [.int .i64 how, .int .i64 at_, .int .i64 n, .string text] ∧ text.size ≤ maxLen ∧ (-9223372036854775808 ≤ at_ ∧ at_ ≤ 9223372036854775807) ∧ (-9223372036854775808 ≤ n ∧ n ≤ 9223372036854775807) := by
  obtain ⟨y0, y1, y2, y3, m, _, hl, h0, h1, h2, h3⟩ := Go.Joins.trod_struct4 Tryd.underlying40 h
  rw [cells_turn] at hl
  match cs, hl with
  | [c0, c1, c2, c3], _ =>
    simp only [cells_int, cells_Str] at h0 h1 h2 h3
    obtain ⟨z0, e0, _, _⟩ := DataW.trod_int Tryd.underlying3 h0
    obtain ⟨z1, e1, _, w1⟩ := DataW.trod_int Tryd.underlying3 h1
    obtain ⟨z2, e2, _, w2⟩ := DataW.trod_int Tryd.underlying3 h2
    obtain ⟨s, e3, _, hs⟩ := DataW.trod_string Tryd.underlying9 h3
    simp at e0 e1 e2 e3
    subst e0 e1 e2 e3
    exact ⟨z0, z1, z2, s, rfl, hs, wf_i64 w1, wf_i64 w2⟩
set_option maxRecDepth 100000 in
theorem open_turn {r : Reach} {b0 : Nat} {v : Value} {d : DataW H} {p : List MemPlace} (hv : Value.okWide Tryd.prog W r b0 40 v) (h : DataW.Trod enc Tryd.prog W base spare held 40 v d p) :
    ∃ (how at_ n : Int) (text : ByteArray), v = turnV how at_ n text ∧ text.size ≤ maxLen ∧ (-9223372036854775808 ≤ at_ ∧ at_ ≤ 9223372036854775807) ∧ (-9223372036854775808 ≤ n ∧ n ≤ 9223372036854775807) := by
  obtain ⟨cs, rfl, hsz⟩ := okWide_struct Tryd.underlying40 hv
  obtain ⟨fuel, hf⟩ := h
  obtain ⟨how, at_, n, text, e, ht⟩ := turn_of hf
  obtain ⟨l⟩ := cs
  simp only [Value.cells] at e
  subst e
  exact ⟨how, at_, n, text, rfl, ht⟩
end
end Go.Proofs.YtiinppicdhidhaaDoor
