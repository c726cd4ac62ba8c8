/-
  Arguments that came in, opened: a slice of numbers, a turn, two turns.
-/
import Derived.Test.YteiialpecaebdaaDoorWt
import Derived.OpenShut
import Derived.Lib.SmallJoins
set_option linter.unusedVariables false
set_option linter.unusedSimpArgs false
namespace Go.Proofs.YteiialpecaebdaaDoor
open Go.ChangeShapes Go.WideShapes Go.ChangeAt Go.RowKit
open Go.ChangeMaps (open_string shut_string)

theorem laidOut : laidOutB Tryd.prog = true := by kernel_rfl
theorem cells_int : Tryd.prog.cellsOf 3 = 1 := by kernel_rfl
theorem cells_str : Tryd.prog.cellsOf 9 = 1 := by kernel_rfl
theorem cells_turn : Tryd.prog.cellsOf 24 = 4 := by kernel_rfl
theorem cells_turns : Tryd.prog.cellsOf 25 = 8 := by kernel_rfl
section
variable {H : Type} {enc : TypeId × Value → H} {W : World} {base : Nat} {spare : Nat → Bool} {held : Bool}
theorem ints_in {r : Reach} {b0 : Nat} {v : Value} {d : DataW H} {p : List MemPlace} (hv : Value.okWide Tryd.prog W r b0 22 v) (h : DataW.Trod enc Tryd.prog W base spare held 22 v d p) : ∃ a n c, v = .slice a n c ∧ IntsIn W a n c := by
  obtain ⟨a, n, c, rfl⟩ := okWide_slice Tryd.underlying22 hv
  refine ⟨a, n, c, rfl, ?_⟩
  obtain ⟨fuel, hf⟩ := h
  rcases open_ints Tryd.underlying22 Tryd.underlying3 cells_int hf with ⟨hcs, _⟩ | ⟨x, l, cc, zs, hcs, _, hl, hm, hz, _, hcell, hwz⟩
  · simp [Value.cells] at hcs
    obtain ⟨rfl, rfl, rfl⟩ := hcs
    exact ⟨Nat.zero_le _, Nat.le_refl _, .inl rfl⟩
  · simp [Value.cells] at hcs
    obtain ⟨rfl, rfl, rfl⟩ := hcs
    have hnz : n ≤ zs.length := by rw [hz]; split <;> omega
    refine ⟨by omega, hl, ?_⟩
    by_cases h0 : n = 0
    · exact .inl h0
    · right
      obtain ⟨g, o, rfl, hc⟩ := ints_at hcell (by omega)
      refine ⟨g, o, rfl, ?_, fun i hi => ⟨_, hc i (by omega)⟩⟩
      have := hc 0 (by omega)
      by_cases hg : g < W.heap.size
      · exact hg
      · exfalso
        unfold World.cell? at this
        simp [Array.getElem?_eq_none (Nat.le_of_not_lt hg)] at this
theorem turn_of {fuel : Nat} {cs : List Value} {x : DataW H × List MemPlace} (h : DataW.trod enc Tryd.prog W base spare held fuel 24 cs = some x) :
    ∃ (how at_ n : Int) (text : ByteArray), cs = [.int .i64 how, .int .i64 at_, .int .i64 n, .string text] ∧ text.size ≤ maxLen := by
  obtain ⟨y0, y1, y2, y3, m, _, hl, h0, h1, h2, h3⟩ := Go.Joins.trod_struct4 Tryd.underlying24 h
  rw [cells_turn] at hl
  match cs, hl with
  | [c0, c1, c2, c3], _ =>
    simp only [cells_int, cells_str] at h0 h1 h2 h3
    obtain ⟨z0, e0, _, _⟩ := DataW.trod_int Tryd.underlying3 h0
    obtain ⟨z1, e1, _, _⟩ := DataW.trod_int Tryd.underlying3 h1
    obtain ⟨z2, e2, _, _⟩ := DataW.trod_int Tryd.underlying3 h2
    obtain ⟨s, e3, _, hs⟩ := DataW.trod_string Tryd.underlying9 h3
    simp at e0 e1 e2 e3
    subst e0 e1 e2 e3
    exact ⟨z0, z1, z2, s, rfl, hs⟩
theorem open_turn {r : Reach} {b0 : Nat} {v : Value} {d : DataW H} {p : List MemPlace} (hv : Value.okWide Tryd.prog W r b0 24 v) (h : DataW.Trod enc Tryd.prog W base spare held 24 v d p) :
    ∃ (how at_ n : Int) (text : ByteArray), v = turnV how at_ n text ∧ text.size ≤ maxLen := by
  obtain ⟨cs, rfl, hsz⟩ := okWide_struct Tryd.underlying24 hv
  obtain ⟨fuel, hf⟩ := h
  obtain ⟨how, at_, n, text, e, ht⟩ := turn_of hf
  obtain ⟨l⟩ := cs
  simp only [Value.cells] at e
  subst e
  exact ⟨how, at_, n, text, rfl, ht⟩
theorem open_turns {r : Reach} {b0 : Nat} {v : Value} {d : DataW H} {p : List MemPlace} (hv : Value.okWide Tryd.prog W r b0 25 v) (h : DataW.Trod enc Tryd.prog W base spare held 25 v d p) :
    ∃ (h1 p1 n1 : Int) (t1 : ByteArray) (h2 p2 n2 : Int) (t2 : ByteArray), v = .agg #[.int .i64 h1, .int .i64 p1, .int .i64 n1, .string t1, .int .i64 h2, .int .i64 p2, .int .i64 n2, .string t2] ∧ t1.size ≤ maxLen ∧ t2.size ≤ maxLen := by
  simp only [Value.okWide, Tryd.underlying25] at hv
  obtain ⟨cs, rfl, hsz, _⟩ := hv
  obtain ⟨fuel, hf⟩ := h
  obtain ⟨xs, m, _, _, hl, hx, hi⟩ := DataW.trod_array Tryd.underlying25 hf
  obtain ⟨l⟩ := cs
  simp only [Value.cells] at hi hl
  rw [cells_turns] at hl
  have h0 := hi 0 (by omega)
  have h1 := hi 1 (by omega)
  match xs, hx with
  | [y0, y1], _ =>
    simp only [cells_turn] at h0 h1
    obtain ⟨a0, a1, a2, a3, e, ha⟩ := turn_of h0
    obtain ⟨b0, b1, b2, b3, e2, hb⟩ := turn_of h1
    match l, hl with
    | [c0, c1, c2, c3, c4, c5, c6, c7], _ =>
      simp at e e2
      obtain ⟨rfl, rfl, rfl, rfl⟩ := e
      obtain ⟨rfl, rfl, rfl, rfl⟩ := e2
      exact ⟨a0, a1, a2, a3, b0, b1, b2, b3, rfl, ha, hb⟩
end
end Go.Proofs.YteiialpecaebdaaDoor
