/-
  The reference: Loose, In, nest, Nest.
-/
import Derived.Test.YteiialpecaebdaaDoorRp
set_option linter.unusedVariables false
set_option linter.unusedSimpArgs false
namespace Go.Proofs.YteiialpecaebdaaDoor
open Go.RowKit
open Go.Proofs
open Tree

def looseB (last : Int) : Bool := last == 3 || last == 4 || last == 5
set_option maxHeartbeats 1000000 in
theorem loose_any (last : Int) (g o c n : Nat) (w : World) (hc : w.cell? ⟨g, o + n * 6, none⟩ = some (.int .i64 last)) (hn : n ≤ 1000) :
    Calls Tryd.prog 53 #[.slice (some ⟨g, o, none⟩) (n + 1) c] w fun e w' => e = .returned (.bool (looseB last)) ∧ w' = w := by
  have hcases : last = 3 ∨ last = 4 ∨ last = 5 ∨ (last < 3 ∨ 5 < last) := by omega
  rcases hcases with rfl | rfl | rfl | h
  case _ | _ | _ =>
    go_enter Tryd.func53, Tryd.ntmps53
    go_wp2_with fail
    go_ret
    exact ⟨rfl, rfl⟩
  have b3 : (last == 3) = false := by simp; omega
  have b4 : (last == 4) = false := by simp; omega
  have b5 : (last == 5) = false := by simp; omega
  have he : Hid (looseB last = false) := by show looseB last = false; simp [looseB, b3, b4, b5]
  clear h
  go_enter Tryd.func53, Tryd.ntmps53
  go_wp2_with fail
  go_ret
  exact ⟨by rw [he.out]; rfl, rfl⟩
set_option maxHeartbeats 1000000 in
theorem refIn_any (op last : Int) (g o c n : Nat) (w : World) (hc : w.cell? ⟨g, o + n * 6, none⟩ = some (.int .i64 last)) (hn : n ≤ 1000) :
    Calls Tryd.prog 47 #[.int .i64 op, .slice (some ⟨g, o, none⟩) (n + 1) c] w fun e w' => e = .returned (.bool (inB op last)) ∧ w' = w := by
  cases hl : looseB last
  · have he : Hid (inB op last = (op == 6 && (last == 6 || last == 7))) := by
      show inB op last = _
      unfold inB
      rw [show (last == 3 || last == 4 || last == 5) = false from hl, Bool.false_or]
    go_enter Tryd.func47, Tryd.ntmps47
    go_wp2_with fail
    refine (loose_any _ _ _ _ _ _ hc hn).mono ?_
    rintro e w1 ⟨rfl, rfl⟩
    rw [hl]
    by_cases h6 : op = 6
    · subst h6
      by_cases h66 : last = 6
      · subst h66
        go_wp2_with fail
        go_ret
        exact ⟨rfl, rfl⟩
      · have b6 : (last == 6) = false := by simpa using h66
        clear h66
        go_wp2_with fail
        go_ret
        refine ⟨?_, rfl⟩
        rw [he.out, b6]
        rfl
    · have b6 : (op == 6) = false := by simpa using h6
      clear h6
      go_wp2_with fail
      go_ret
      refine ⟨?_, rfl⟩
      rw [he.out, b6]
      rfl
  · have he : Hid (inB op last = true) := by
      show inB op last = _
      unfold inB
      rw [show (last == 3 || last == 4 || last == 5) = true from hl, Bool.true_or]
    go_enter Tryd.func47, Tryd.ntmps47
    go_wp2_with fail
    refine (loose_any _ _ _ _ _ _ hc hn).mono ?_
    rintro e w1 ⟨rfl, rfl⟩
    rw [hl]
    go_wp2_with fail
    go_ret
    exact ⟨by rw [he.out]; rfl, rfl⟩
end Go.Proofs.YteiialpecaebdaaDoor
