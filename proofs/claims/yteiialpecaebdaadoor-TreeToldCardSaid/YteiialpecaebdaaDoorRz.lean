/-
  The reference: May at notes; May.
-/
import Derived.Test.YteiialpecaebdaaDoorRy
set_option linter.unusedVariables false
set_option linter.unusedSimpArgs false
namespace Go.Proofs.YteiialpecaebdaaDoor
open Go.RowKit
open Go.Proofs

set_option maxHeartbeats 2000000 in
theorem refMay_note (op : Int) (text : ByteArray) (w : World) (h : op = 6 ∨ op = 7) (hs : text.size ≤ maxLen) : Calls Tryd.prog 38 #[stepV op (-1) 0 0 0 text] w (MayOk w ⟨op, -1, 0, 0, 0, text⟩) := by
  have HM := Lib.hid (mayB_note op (-1) 0 0 0 text h)
  unfold maxLen at hs
  rcases h with rfl | rfl
  all_goals
    go_enter Tryd.func38, Tryd.ntmps38
    go_wp2_with fail
    go_loop [4] (fun i => ∃ k : Nat, k ≤ text.size ∧ i = .int .i64 k ∧ okAt text k) (fun i => text.size - (intOf i).toNat)
    case atStart => exact ⟨0, by omega, rfl, fun j h h2 => by omega⟩
    case round =>
      obtain ⟨k, hk, rfl, hok⟩ := hrel
      have HOK := Lib.hid hok
      clear hok
      by_cases hlt : k < text.size
      · go_wp2_with fail
        all_goals
          rename_i hb
          first
          | (refine ⟨⟨k + 1, by omega, by go_num, fun j h h2 => ?_⟩, by simp [intOf]; omega⟩
             by_cases e : j = k
             · subst e
               unfold okByte
               rw [decide_eq_true (by omega), decide_eq_true (by omega)]; rfl
             · exact HOK.out j h (by omega))
          | (go_ret
             refine ⟨?_, belA _ _⟩
             refine bool_returned ?_
             rw [HM.out, okText_no hlt (by unfold okByte; rcases Nat.lt_or_ge 126 (text[k]'hlt).toNat with h | h; (rw [decide_eq_false (p := _ ≤ 126) (by omega)]; simp); (rw [decide_eq_false (p := 32 ≤ _) (by omega)]; rfl))]
             rfl)
      · obtain rfl : k = text.size := by omega
        go_wp2_with fail
        go_ret
        refine ⟨?_, belA _ _⟩
        refine bool_returned ?_
        rw [HM.out, okText_all HOK.out]
        rfl
set_option maxHeartbeats 2000000 in
theorem refMay_bad (op pre atom n num : Int) (text : ByteArray) (w : World) (h : op = 6 ∨ op = 7) (hb : ¬ (pre = -1 ∧ atom = 0 ∧ n = 0 ∧ num = 0)) : Calls Tryd.prog 38 #[stepV op pre atom n num text] w (MayOk w ⟨op, pre, atom, n, num, text⟩) := by
  have HM : Hid (mayB ⟨op, pre, atom, n, num, text⟩ = false) := by
    show mayB _ = false
    rw [mayB_note op pre atom n num text h]
    by_cases h1 : pre = -1
    · by_cases h2 : atom = 0
      · by_cases h3 : n = 0
        · have h4 : ¬ num = 0 := fun h4 => hb ⟨h1, h2, h3, h4⟩
          simp [h4]
        · simp [h3]
      · simp [h2]
    · simp [h1]
  by_cases h1 : pre = -1
  · subst h1
    by_cases h2 : atom = 0
    · subst h2
      by_cases h3 : n = 0
      · subst h3
        have h4 : (num != 0) = true := by
          have : ¬ num = 0 := fun h4 => hb ⟨rfl, rfl, rfl, h4⟩
          simpa using this
        clear hb
        rcases h with rfl | rfl
        all_goals
          go_enter Tryd.func38, Tryd.ntmps38
          go_wp2_with fail
          go_ret
          exact ⟨by rw [HM.out]; rfl, belA _ _⟩
      · have h4 : (n != 0) = true := by simpa using h3
        clear hb h3
        rcases h with rfl | rfl
        all_goals
          go_enter Tryd.func38, Tryd.ntmps38
          go_wp2_with fail
          go_ret
          exact ⟨by rw [HM.out]; rfl, belA _ _⟩
    · have h4 : (atom != 0) = true := by simpa using h2
      clear hb h2
      rcases h with rfl | rfl
      all_goals
        go_enter Tryd.func38, Tryd.ntmps38
        go_wp2_with fail
        go_ret
        exact ⟨by rw [HM.out]; rfl, belA _ _⟩
  · have h4 : (pre != -1) = true := by simpa using h1
    clear hb h1
    rcases h with rfl | rfl
    all_goals
      go_enter Tryd.func38, Tryd.ntmps38
      go_wp2_with fail
      go_ret
      exact ⟨by rw [HM.out]; rfl, belA _ _⟩
theorem refMay_any (op pre atom n num : Int) (text : ByteArray) (w : World) (hs : text.size ≤ maxLen) : Calls Tryd.prog 38 #[stepV op pre atom n num text] w (MayOk w ⟨op, pre, atom, n, num, text⟩) := by
  by_cases h1 : op = 1
  · subst h1; exact refMay_num _ _ _ _ _ _
  by_cases h2 : op = 2
  · subst h2; exact refMay_sym _ _ _ _ _ _
  by_cases h3 : op = 3 ∨ op = 4 ∨ op = 5
  · exact refMay_plain _ _ _ _ _ _ _ h3
  by_cases h4 : op = 6 ∨ op = 7
  · by_cases hb : pre = -1 ∧ atom = 0 ∧ n = 0 ∧ num = 0
    · obtain ⟨rfl, rfl, rfl, rfl⟩ := hb
      exact refMay_note _ _ _ h4 hs
    · exact refMay_bad _ _ _ _ _ _ _ h4 hb
  exact refMay_else _ _ _ _ _ _ _ (by omega)
end Go.Proofs.YteiialpecaebdaaDoor
