/-
  Parts, In, nest, Nest: the contracts.
-/
import Derived.Test.YteiialpecaebdaaDoorPt
import Derived.Test.YteiialpecaebdaaDoorCl
set_option linter.unusedVariables false
set_option linter.unusedSimpArgs false
namespace Go.Proofs.YteiialpecaebdaaDoor
open Go.RowKit
open Go.Proofs
open Tree

/-! What parts answers at a tree, as ranges. -/
def PartOf (w : World) (v : Value) (t : List StepD) : Prop := (t = [] ∧ v = .slice none 0 0) ∨ ∃ g o c, v = .slice (some ⟨g, o, none⟩) t.length c ∧ 0 < t.length ∧ t.length ≤ c ∧ w.rangeAt g o (stepsL t)
theorem stepsL_append (a b : List StepD) : stepsL (a ++ b) = stepsL a ++ stepsL b := List.flatMap_append
theorem range_left {w : World} {g o : Nat} {a b : List Value} (h : w.rangeAt g o (a ++ b)) : w.rangeAt g o a := fun j v hj => h j v (by
  rw [List.getElem?_append_left]; exact hj
  exact (List.getElem?_eq_some_iff.1 hj).1)
theorem range_right {w : World} {g o : Nat} {a b : List Value} (h : w.rangeAt g o (a ++ b)) : w.rangeAt g (o + a.length) b := fun j v hj => by
  have := h (a.length + j) v (by rw [List.getElem?_append_right (by omega), Nat.add_sub_cancel_left]; exact hj)
  rw [← Nat.add_assoc] at this
  exact this
def PartsOk (w : World) (T : Tree) (e : Ending) (w' : World) : Prop := ∃ l r, e = .returned (.tuple #[l, r]) ∧ Below w.heap.size w w' ∧ PartOf w' l T.left ∧ PartOf w' r T.right
theorem parts_any (g o c : Nat) (T : Tree) (w : World) (hT : T.Wf) (hr : w.rangeAt g o (stepsL T.ser)) (hc : T.ser.length ≤ c) (hl : T.ser.length ≤ 1000) :
    Calls Tryd.prog 32 #[.slice (some ⟨g, o, none⟩) T.ser.length c] w (PartsOk w T) := by
  have hg : g < w.heap.size := range_lt hr (by
    intro e
    have h1 := congrArg List.length e
    rw [stepsL_length] at h1
    have := T.ser_pos
    simp at h1
    omega)
  cases T with
  | leaf x =>
    refine (parts_leaf g o c x w hr hT.2).mono ?_
    rintro e w' ⟨rfl, hb⟩
    exact ⟨_, _, rfl, hb, .inl ⟨rfl, rfl⟩, .inl ⟨rfl, rfl⟩⟩
  | one x a =>
    simp only [ser, List.length_append, List.length_singleton] at hc hl ⊢
    rw [ser, stepsL_append] at hr
    have h2 := range_right hr
    rw [stepsL_length] at h2
    have h2 : w.rangeAt g (o + a.ser.length * 6) (stepL x) := by simpa [stepsL] using h2
    refine (parts_one g o c a.ser.length x w h2 hT.2.1 hc (by omega) a.ser_pos).mono ?_
    rintro e w' ⟨rfl, hb⟩
    exact ⟨_, _, rfl, hb, .inl ⟨rfl, rfl⟩, .inr ⟨g, o, c, rfl, a.ser_pos, by show a.ser.length ≤ c; omega, rangeAt_below (range_left hr) hb hg⟩⟩
  | two x a b =>
    simp only [ser, List.length_append, List.length_singleton] at hc hl ⊢
    rw [ser, stepsL_append] at hr
    have h2 := range_right hr
    have h1 := range_left hr
    rw [stepsL_length, List.length_append] at h2
    have h2 : w.rangeAt g (o + (a.ser.length + b.ser.length) * 6) (stepL x) := by simpa [stepsL] using h2
    refine (parts_two g o c a.ser.length b.ser.length x a b w hT.2.2.1 hT.2.2.2 rfl rfl h1 h2 hT.2.1 hc (by omega) a.ser_pos b.ser_pos).mono ?_
    rintro e w' ⟨rfl, hb⟩
    rw [stepsL_append] at h1
    have h3 := range_right h1
    rw [stepsL_length] at h3
    exact ⟨_, _, rfl, hb, .inr ⟨g, o, c, rfl, a.ser_pos, by show a.ser.length ≤ c; omega, rangeAt_below (range_left h1) hb hg⟩, .inr ⟨g, _, _, rfl, b.ser_pos, by show b.ser.length ≤ _; omega, rangeAt_below h3 hb hg⟩⟩
/-! In. -/
set_option maxHeartbeats 1000000 in
theorem in_any (op last : Int) (g o c n : Nat) (w : World) (hc : w.cell? ⟨g, o + n * 6, none⟩ = some (.int .i64 last)) (hn : n ≤ 1000) :
    Calls Tryd.prog 43 #[.int .i64 op, .slice (some ⟨g, o, none⟩) (n + 1) c] w fun e w' => e = .returned (.bool (inB op last)) ∧ w' = w := by
  have hcases : last = 3 ∨ last = 4 ∨ last = 5 ∨ last = 6 ∨ last = 7 ∨ (last < 3 ∨ 7 < last) := by omega
  rcases hcases with rfl | rfl | rfl | rfl | rfl | h
  case _ | _ | _ =>
    go_enter Tryd.func43, Tryd.ntmps43
    go_wp2_with fail
    go_ret
    exact ⟨rfl, rfl⟩
  case _ | _ =>
    go_enter Tryd.func43, Tryd.ntmps43
    go_wp2_with fail
    all_goals
      go_ret
      refine ⟨?_, rfl⟩
      first | (simp [inB, *]; done)
  have b3 : (last == 3) = false := by simp; omega
  have b4 : (last == 4) = false := by simp; omega
  have b5 : (last == 5) = false := by simp; omega
  have b6 : (last == 6) = false := by simp; omega
  have b7 : (last == 7) = false := by simp; omega
  have he : Hid (inB op last = false) := by show inB op last = false; simp [inB, b3, b4, b5, b6, b7]
  clear h
  go_enter Tryd.func43, Tryd.ntmps43
  go_wp2_with fail
  go_ret
  exact ⟨by rw [he.out]; rfl, rfl⟩
end Go.Proofs.YteiialpecaebdaaDoor
