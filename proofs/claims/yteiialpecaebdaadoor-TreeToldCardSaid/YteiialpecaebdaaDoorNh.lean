/-
  The law TreeNests: its walk.
-/
import Derived.Test.YteiialpecaebdaaDoorPm
set_option linter.unusedVariables false
set_option linter.unusedSimpArgs false
namespace Go.Proofs.YteiialpecaebdaaDoor
open Go.RowKit
open Go.Proofs
open Tree

theorem Own.slat {w : World} {B g n c : Nat} {t : List StepD} (h : Own w B (.slice (some ⟨g, 0, none⟩) n c) t) : SlAt w (some ⟨g, 0, none⟩) t := by
  obtain ⟨a, c', h1, h2, _⟩ := own_sl h
  simp only [Value.slice.injEq] at h1
  rw [h1.1]; exact h2
theorem nest_of {T : Tree} (hT : T.Wf) (hl : T.ser.length ≤ 255) {r : Int} (h : nestS T.ser r) : r = nestT T := nestS_ser hT hl h
theorem may_lit (op : Int) (h : op = 3 ∨ op = 4 ∨ op = 5 ∨ op = 6) : mayB ⟨op, -1, 0, 0, 0, ⟨#[]⟩⟩ = true := by
  rcases h with rfl | rfl | rfl | rfl
  · exact (may_p 3 (by omega)).1
  · exact (may_p 4 (by omega)).1
  · exact (may_p 5 (by omega)).1
  · exact (may_t ⟨#[]⟩ ok2).1
theorem root_ops {T : Tree} (h : T.Wf) : 1 ≤ T.root.op ∧ T.root.op ≤ 7 := by
  have hm : mayB T.root = true := by cases T <;> first | exact h.1 | exact h.1
  unfold mayB at hm
  split at hm
  · omega
  · split at hm
    · omega
    · split at hm
      · omega
      · split at hm
        · omega
        · cases hm
theorem inB_in (op lo : Int) (h : 3 ≤ lo ∧ lo ≤ 5) : inB op lo = true := by
  unfold inB
  have : lo = 3 ∨ lo = 4 ∨ lo = 5 := by omega
  rcases this with rfl | rfl | rfl <;> rfl
theorem inB_low (op lo : Int) (h : lo < 3) : inB op lo = false := by
  unfold inB
  have h1 : (lo == 3) = false := by simp; omega
  have h2 : (lo == 4) = false := by simp; omega
  have h3 : (lo == 5) = false := by simp; omega
  have h4 : (lo == 6) = false := by simp; omega
  have h5 : (lo == 7) = false := by simp; omega
  simp [h1, h2, h3, h4, h5]
theorem inB_high (op lo : Int) (h : 6 ≤ lo) (h7 : lo ≤ 7) : inB op lo = (op == 6) := by
  unfold inB
  have h1 : (lo == 3) = false := by simp; omega
  have h2 : (lo == 4) = false := by simp; omega
  have h3 : (lo == 5) = false := by simp; omega
  have h4 : (lo == 6 || lo == 7) = true := by simp; omega
  simp [h1, h2, h3, h4]
end Go.Proofs.YteiialpecaebdaaDoor
