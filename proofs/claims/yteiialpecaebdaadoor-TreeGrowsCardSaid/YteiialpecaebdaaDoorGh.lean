/-
  The law TreeGrows: what is sound, by a count; what is made first.
-/
import Derived.Test.YteiialpecaebdaaDoorNh
import Derived.Test.YteiialpecaebdaaDoorSc
set_option linter.unusedVariables false
set_option linter.unusedSimpArgs false
namespace Go.Proofs.YteiialpecaebdaaDoor
open Go.RowKit
open Go.Proofs
open Tree

def wt : List StepD → Int
  | [] => 0
  | x :: t => 1 - takesI x.op + wt t
theorem wt_app (a b : List StepD) : wt (a ++ b) = wt a + wt b := by
  induction a with
  | nil => simp [wt]
  | cons x t ih => simp only [List.cons_append, wt, ih]; omega
theorem wt_one (x : StepD) : wt [x] = 1 - takesI x.op := by simp [wt]
theorem wt_ser : ∀ (T : Tree), T.Wf → wt T.ser = 1
  | .leaf x, h => by simp only [ser, wt_one, h.2]; omega
  | .one x a, h => by simp only [ser, wt_app, wt_one, wt_ser a h.2.2, h.2.1]; omega
  | .two x a b, h => by simp only [ser, wt_app, wt_one, wt_ser a h.2.2.1, wt_ser b h.2.2.2, h.2.1]; omega
theorem sound_wt {t : List StepD} (h : wt t ≠ 1) : soundB t = false := by
  cases hb : soundB t
  · rfl
  · obtain ⟨_, T, hT, rfl⟩ := (soundB_iff t).1 hb
    exact (h (wt_ser T hT)).elim
section
variable (w : World)
theorem f1 : Own (w.alloc emptyO) w.heap.size (emV w.heap.size) [] ∧ Below w.heap.size w (w.alloc emptyO) ∧ w.heap.size ≤ (w.alloc emptyO).heap.size :=
  ⟨own_made w w.heap.size (Nat.le_refl _), (Below.refl _ w).alloc (Nat.le_refl _) _, by simp⟩
theorem f2 (x : StepD) : Own ((w.alloc emptyO).alloc (stepO x)) w.heap.size (emV w.heap.size) [] ∧ Below w.heap.size w ((w.alloc emptyO).alloc (stepO x)) ∧ w.heap.size ≤ ((w.alloc emptyO).alloc (stepO x)).heap.size ∧ LitAt ((w.alloc emptyO).alloc (stepO x)) (emV w.heap.size) (w.heap.size + 1) x :=
  ⟨(f1 w).1.alloc _, (f1 w).2.1.alloc (by simp) _, by simp; omega, by have := lit_new (f1 w).1 x; simpa using this⟩
theorem f3 (x : StepD) : Own ((w.alloc (stepO x)).alloc emptyO) w.heap.size (emV (w.heap.size + 1)) [] ∧ Below w.heap.size w ((w.alloc (stepO x)).alloc emptyO) ∧ w.heap.size ≤ ((w.alloc (stepO x)).alloc emptyO).heap.size ∧ LitAt ((w.alloc (stepO x)).alloc emptyO) (emV (w.heap.size + 1)) w.heap.size x := by
  have h := own_made (w.alloc (stepO x)) w.heap.size (by simp)
  have e : (w.alloc (stepO x)).heap.size = w.heap.size + 1 := by simp
  rw [e] at h
  refine ⟨h, ((Below.refl _ w).alloc (Nat.le_refl _) _).alloc (by simp) _, by simp; omega, fun j u hj => ?_, by simp; omega, ?_⟩
  · rw [Nat.zero_add]
    exact cellAlloc _ (cellNew w _ _ j u (by simpa using hj))
  · simp [Value.ownBlock]
end
end Go.Proofs.YteiialpecaebdaaDoor
