/-
  The reference: Takes, May.
-/
import Derived.Test.YteiialpecaebdaaDoorNs
import Derived.Test.YteiialpecaebdaaDoorRt2
set_option linter.unusedVariables false
set_option linter.unusedSimpArgs false
namespace Go.Proofs.YteiialpecaebdaaDoor
open Go.RowKit
open Go.Proofs

set_option maxHeartbeats 400000 in
theorem refTakes_any (op : Int) (w : World) : Calls Tryd.prog 36 #[.int .i64 op] w fun e w' => e = .returned (.int .i64 (takesI op)) ∧ w' = w := by
  have h7 : op = 3 ∨ op = 4 ∨ op = 5 ∨ op = 6 ∨ (op < 3 ∨ 6 < op) := by omega
  rcases h7 with rfl | rfl | rfl | rfl | h
  case _ | _ | _ | _ =>
    go_enter Tryd.func36, Tryd.ntmps36
    go_wp2
    go_ret
    exact ⟨rfl, rfl⟩
  have e : Hid (takesI op = 0) := by
    show takesI op = 0
    unfold takesI
    repeat' split
    all_goals omega
  have b3 : (op == 3) = false := by simp; omega
  have b4 : (op == 4) = false := by simp; omega
  have b5 : (op == 5) = false := by simp; omega
  have b6 : (op == 6) = false := by simp; omega
  clear h
  go_enter Tryd.func36, Tryd.ntmps36
  go_wp2
  go_ret
  exact ⟨by rw [e.out]; rfl, rfl⟩
def MayOk (w : World) (x : StepD) (e : Ending) (w' : World) : Prop := e = .returned (.bool (mayB x)) ∧ Below w.heap.size w w'
set_option maxHeartbeats 1000000 in
theorem refMay_num (pre atom n num : Int) (text : ByteArray) (w : World) : Calls Tryd.prog 38 #[stepV 1 pre atom n num text] w (MayOk w ⟨1, pre, atom, n, num, text⟩) := by
  go_enter Tryd.func38, Tryd.ntmps38
  go_wp2
  all_goals (go_ret; exact ⟨by first | (refine bool_returned ?_; simp [mayB, noText, *]; done) | (refine bool_returned ?_; simp [mayB, noText, *]; intros; omega) | (refine bool_returned ?_; simp_all [mayB, noText]; done), belA _ _⟩)
set_option maxHeartbeats 1000000 in
theorem refMay_plain (op pre atom n num : Int) (text : ByteArray) (w : World) (h : op = 3 ∨ op = 4 ∨ op = 5) : Calls Tryd.prog 38 #[stepV op pre atom n num text] w (MayOk w ⟨op, pre, atom, n, num, text⟩) := by
  rcases h with rfl | rfl | rfl
  all_goals
    go_enter Tryd.func38, Tryd.ntmps38
    go_wp2
    all_goals (go_ret; exact ⟨by first | (refine bool_returned ?_; simp [mayB, noText, *]; done) | (refine bool_returned ?_; simp [mayB, noText, *]; intros; omega) | (refine bool_returned ?_; simp_all [mayB, noText]; done), belA _ _⟩)
set_option maxHeartbeats 1000000 in
theorem refMay_else (op pre atom n num : Int) (text : ByteArray) (w : World) (h : op < 1 ∨ 7 < op) : Calls Tryd.prog 38 #[stepV op pre atom n num text] w (MayOk w ⟨op, pre, atom, n, num, text⟩) := by
  have HM : Hid (mayB ⟨op, pre, atom, n, num, text⟩ = false) := by
    show mayB _ = false
    unfold mayB
    rw [if_neg (by show ¬ op = 1; omega), if_neg (by show ¬ op = 2; omega), if_neg (by show ¬ (op = 3 ∨ op = 4 ∨ op = 5); omega), if_neg (by show ¬ (op = 6 ∨ op = 7); omega)]
  have b1 : (op == 1) = false := by simp; omega
  have b2 : (op == 2) = false := by simp; omega
  have b3 : (op == 3) = false := by simp; omega
  have b4 : (op == 4) = false := by simp; omega
  have b5 : (op == 5) = false := by simp; omega
  have b6 : (op == 6) = false := by simp; omega
  have b7 : (op == 7) = false := by simp; omega
  have n1 : (op != 1) = true := by simp; omega
  have n2 : (op != 2) = true := by simp; omega
  have n6 : (op != 6) = true := by simp; omega
  have n7 : (op != 7) = true := by simp; omega
  clear h
  go_enter Tryd.func38, Tryd.ntmps38
  go_wp2
  all_goals (go_ret; exact ⟨by rw [HM.out]; rfl, belA _ _⟩)
theorem symB_in (pre atom n num : Int) (text : ByteArray) (h1 : 0 ≤ atom) (h2 : atom < 48) : symB ⟨2, pre, atom, n, num, text⟩ = (decide (-99 ≤ n) && decide (n ≤ 99) && (pre == -1 || (decide (0 ≤ pre) && decide (pre < 20) && metricAt atom))) := by
  simp [symB, h1, h2]
theorem symB_out (pre atom n num : Int) (text : ByteArray) (h : ¬ (0 ≤ atom ∧ atom < 48)) : symB ⟨2, pre, atom, n, num, text⟩ = false := by
  simp only [symB]
  by_cases h1 : 0 ≤ atom
  · rw [decide_eq_false (show ¬ atom < 48 by omega)]; simp
  · rw [decide_eq_false h1]; simp
set_option maxHeartbeats 2000000 in
theorem refMay_sym (pre atom n num : Int) (text : ByteArray) (w : World) : Calls Tryd.prog 38 #[stepV 2 pre atom n num text] w (MayOk w ⟨2, pre, atom, n, num, text⟩) := by
  by_cases hnt : num = 0 ∧ text.toList = []
  · obtain ⟨rfl, ht⟩ := hnt
    have ht2 : text.toList.isEmpty = true := by rw [ht]; rfl
    by_cases ha : 0 ≤ atom ∧ atom < 48
    · obtain ⟨ha1, ha2⟩ := ha
      have HM : Hid (mayB ⟨2, pre, atom, n, 0, text⟩ = (decide (-99 ≤ n) && decide (n ≤ 99) && (pre == -1 || (decide (0 ≤ pre) && decide (pre < 20) && metricAt atom)))) := by
        show mayB _ = _
        rw [mayB_sym, symB_in _ _ _ _ _ ha1 ha2, ht2]; simp
      clear ht
      cases hm : metricAt atom
      all_goals
        rw [hm] at HM
        go_enter Tryd.func38, Tryd.ntmps38
        go_wp2_with fail
        refine (refTable_ok _).mono ?_
        intro e w1 hT
        obtain ⟨a1, c1, a2, c2, ss, rfl, hT, hb⟩ := hT
        obtain ⟨g, cap, hg⟩ := form_of hT.atoms (by omega)
        cases hg
        have hcell : ∀ o, (w1.alloc o).cell? ⟨g, atom.toNat * 12 + 5, none⟩ = some (.bool (metricAt atom)) := fun o => cellAlloc o (atom_metric hT.atoms atom.toNat (by omega))
        rw [hm] at hcell
        clear hm
        have hx : ∀ (j : Nat) (v : Value) (o : Obj), (#[.int .i64 2, .int .i64 pre, .int .i64 atom, .int .i64 n, .int .i64 0, .string text] : Array Value)[j]? = some v → (w1.alloc o).cell? ⟨w.heap.size, j, none⟩ = some v := fun j v o hv =>
          cellAlloc o ((hb.cell (p := ⟨w.heap.size, j, none⟩) (by simp)).trans (cellNew w _ _ j v hv))
        have hx1 := fun o => hx 1 _ o rfl
        have hx2 := fun o => hx 2 _ o rfl
        have hx3 := fun o => hx 3 _ o rfl
        have hz : w.heap.size + 1 ≤ w1.heap.size := by have := hb.size; simpa using this
        have HB := Lib.hid hb
        have d1 : decide (atom < 0) = false := by simp; omega
        have d2 : decide (48 ≤ atom) = false := by simp; omega
        clear hT hb hx ht2
        go_wp2
        all_goals (go_ret; exact ⟨by first | (refine bool_returned ?_; rw [HM.out]; clear HM; simp [*]; done) | (refine bool_returned ?_; rw [HM.out]; clear HM; simp [*]; omega) | (refine bool_returned ?_; rw [HM.out]; clear HM; simp; omega), bel2 (bel2 (belA w _) HB.out) (belA w1 _)⟩)
    · have HM : Hid (mayB ⟨2, pre, atom, n, 0, text⟩ = false) := by
        show mayB _ = _
        rw [mayB_sym, symB_out _ _ _ _ _ ha]; rfl
      have h2 : atom < 0 ∨ (0 ≤ atom ∧ 48 ≤ atom) := by omega
      clear ht ha
      rcases h2 with h2 | ⟨h2, h3⟩
      · have d1 : decide (atom < 0) = true := by simp; omega
        go_enter Tryd.func38, Tryd.ntmps38
        go_wp2_with fail
        refine (refTable_ok _).mono ?_
        intro e w1 hT
        obtain ⟨a1, c1, a2, c2, ss, rfl, hT, hb⟩ := hT
        have hx : ∀ (j : Nat) (v : Value) (o : Obj), (#[.int .i64 2, .int .i64 pre, .int .i64 atom, .int .i64 n, .int .i64 0, .string text] : Array Value)[j]? = some v → (w1.alloc o).cell? ⟨w.heap.size, j, none⟩ = some v := fun j v o hv =>
          cellAlloc o ((hb.cell (p := ⟨w.heap.size, j, none⟩) (by simp)).trans (cellNew w _ _ j v hv))
        have hx2 := fun o => hx 2 _ o rfl
        have hz : w.heap.size + 1 ≤ w1.heap.size := by have := hb.size; simpa using this
        have HB := Lib.hid hb
        clear hT hb hx ht2
        go_wp2
        all_goals (go_ret; exact ⟨by rw [HM.out]; rfl, bel2 (bel2 (belA w _) HB.out) (belA w1 _)⟩)
      · have d1 : decide (atom < 0) = false := by simp; omega
        have d2 : decide (48 ≤ atom) = true := by simp; omega
        go_enter Tryd.func38, Tryd.ntmps38
        go_wp2_with fail
        refine (refTable_ok _).mono ?_
        intro e w1 hT
        obtain ⟨a1, c1, a2, c2, ss, rfl, hT, hb⟩ := hT
        have hx : ∀ (j : Nat) (v : Value) (o : Obj), (#[.int .i64 2, .int .i64 pre, .int .i64 atom, .int .i64 n, .int .i64 0, .string text] : Array Value)[j]? = some v → (w1.alloc o).cell? ⟨w.heap.size, j, none⟩ = some v := fun j v o hv =>
          cellAlloc o ((hb.cell (p := ⟨w.heap.size, j, none⟩) (by simp)).trans (cellNew w _ _ j v hv))
        have hx2 := fun o => hx 2 _ o rfl
        have hz : w.heap.size + 1 ≤ w1.heap.size := by have := hb.size; simpa using this
        have HB := Lib.hid hb
        clear hT hb hx ht2
        go_wp2
        all_goals (go_ret; exact ⟨by rw [HM.out]; rfl, bel2 (bel2 (belA w _) HB.out) (belA w1 _)⟩)
  · have HM : Hid (mayB ⟨2, pre, atom, n, num, text⟩ = false) := by
      show mayB _ = _
      rw [mayB_sym]
      by_cases h : num = 0
      · have : text.toList ≠ [] := fun e => hnt ⟨h, e⟩
        simp [this]
      · simp [h]
    by_cases h : num = 0
    · have h2 : (!text.toList.isEmpty) = true := by
        have : text.toList ≠ [] := fun e => hnt ⟨h, e⟩
        simp [this]
      subst h
      clear hnt
      go_enter Tryd.func38, Tryd.ntmps38
      go_wp2
      all_goals (go_ret; exact ⟨by rw [HM.out]; rfl, belA _ _⟩)
    · have h2 : (num != 0) = true := by simpa using h
      clear hnt
      go_enter Tryd.func38, Tryd.ntmps38
      go_wp2
      all_goals (go_ret; exact ⟨by rw [HM.out]; rfl, belA _ _⟩)
end Go.Proofs.YteiialpecaebdaaDoor
