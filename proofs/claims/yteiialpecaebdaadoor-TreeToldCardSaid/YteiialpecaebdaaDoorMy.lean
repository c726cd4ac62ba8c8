/-
  may: all steps.
-/
import Derived.Test.YteiialpecaebdaaDoorIx
set_option linter.unusedVariables false
set_option linter.unusedSimpArgs false
namespace Go.Proofs.YteiialpecaebdaaDoor
open Go.RowKit
open Go.Proofs

theorem mayB_sym (pre atom n num : Int) (text : ByteArray) : mayB ⟨2, pre, atom, n, num, text⟩ = (symB ⟨2, pre, atom, n, num, text⟩ && num == 0 && text.toList.isEmpty) := by simp [mayB, noText]
theorem bool_returned {a b : Bool} (h : a = b) : Ending.returned (.bool a) = Ending.returned (.bool b) := by rw [h]
set_option maxHeartbeats 1000000 in
theorem may_sym (pre atom n num : Int) (text : ByteArray) (w : World) (hL : Laid w) :
    Calls Tryd.prog 28 #[stepV 2 pre atom n num text] w fun e w' => e = .returned (.bool (mayB ⟨2, pre, atom, n, num, text⟩)) ∧ Below w.heap.size w w' := by
  have HL : Hid (∀ o, Laid (w.alloc o)) := fun o j u hu => cellAlloc o (hL j u hu)
  clear hL
  cases hs : symB ⟨2, pre, atom, n, num, text⟩
  all_goals
    have HS := Lib.hid hs
    clear hs
    go_enter Tryd.func28, Tryd.ntmps28
    go_wp2_with fail
    refine (symbol_any _ _ _ _ _ _ _ (HL.out _)).mono ?_
    rintro e w1 ⟨rfl, hb⟩
    rw [HS.out]
    have hx : ∀ (j : Nat) (v : Value) (o : Obj), (#[.int .i64 2, .int .i64 pre, .int .i64 atom, .int .i64 n, .int .i64 num, .string text] : Array Value)[j]? = some v → (w1.alloc o).cell? ⟨w.heap.size, j, none⟩ = some v := fun j v o hv =>
      cellAlloc o ((hb.cell (p := ⟨w.heap.size, j, none⟩) (by simp)).trans (cellNew w _ _ j v hv))
    have hy : ∀ (j : Nat) (v : Value), (#[.int .i64 2, .int .i64 pre, .int .i64 atom, .int .i64 n, .int .i64 num, .string text] : Array Value)[j]? = some v → (w1).cell? ⟨w.heap.size, j, none⟩ = some v := fun j v hv =>
      ((hb.cell (p := ⟨w.heap.size, j, none⟩) (by simp)).trans (cellNew w _ _ j v hv))
    have hx0 := fun o => hx 0 _ o rfl
    have hx1 := fun o => hx 1 _ o rfl
    have hx2 := fun o => hx 2 _ o rfl
    have hx3 := fun o => hx 3 _ o rfl
    have hx4 := fun o => hx 4 _ o rfl
    have hx5 := fun o => hx 5 _ o rfl
    have hy0 := hy 0 _ rfl
    have hy1 := hy 1 _ rfl
    have hy2 := hy 2 _ rfl
    have hy3 := hy 3 _ rfl
    have hy4 := hy 4 _ rfl
    have hy5 := hy 5 _ rfl
    have hz : w.heap.size + 1 ≤ w1.heap.size := by have := hb.size; simpa using this
    have HB := Lib.hid hb
    clear hb hx hy
    go_wp2
    all_goals (go_ret; exact ⟨by first | (refine bool_returned ?_; rw [mayB_sym, HS.out]; clear HS; simp [*]; done), by first | exact bel2 (belA w _) HB.out | exact bel2 (bel2 (belA w _) HB.out) (belA w1 _) | exact bel2 (bel2 (bel2 (belA w _) HB.out) (belA w1 _)) (belA _ _)⟩)
set_option maxHeartbeats 1000000 in
theorem may_plain (op pre atom n num : Int) (text : ByteArray) (w : World) (h : op = 3 ∨ op = 4 ∨ op = 5) :
    Calls Tryd.prog 28 #[stepV op pre atom n num text] w fun e w' => e = .returned (.bool (mayB ⟨op, pre, atom, n, num, text⟩)) ∧ Below w.heap.size w w' := by
  rcases h with rfl | rfl | rfl
  all_goals
    go_enter Tryd.func28, Tryd.ntmps28
    go_wp2
    all_goals (go_ret; exact ⟨by first | (simp [mayB, noText, *]; done) | (simp [mayB, noText, *]; intros; omega), belA _ _⟩)
theorem mayB_note (op pre atom n num : Int) (text : ByteArray) (h : op = 6 ∨ op = 7) : mayB ⟨op, pre, atom, n, num, text⟩ = (okText text.toList && pre == -1 && atom == 0 && n == 0 && num == 0) := by rcases h with rfl | rfl <;> simp [mayB]
set_option maxHeartbeats 2000000 in
theorem may_note (op pre atom n num : Int) (text : ByteArray) (w : World) (h : op = 6 ∨ op = 7) :
    Calls Tryd.prog 28 #[stepV op pre atom n num text] w fun e w' => e = .returned (.bool (mayB ⟨op, pre, atom, n, num, text⟩)) ∧ Below w.heap.size w w' := by
  have HM := Lib.hid (mayB_note op pre atom n num text h)
  rcases h with rfl | rfl
  all_goals
    go_enter Tryd.func28, Tryd.ntmps28
    go_wp2_with fail
    refine (Index_any _ _).mono ?_
    rintro e w1 ⟨r, rfl, hr, hb⟩
    have hcell : ∀ (j : Nat) (v : Value), (w.alloc (.cells #[.int .i64 _, .int .i64 pre, .int .i64 atom, .int .i64 n, .int .i64 num, .string text] 35)).cell? ⟨w.heap.size, j, none⟩ = some v → w1.cell? ⟨w.heap.size, j, none⟩ = some v := fun j v hv => (hb.cell (World.block_lt_of_cell? _ _ hv)).trans hv
    have hy0 := hcell 0 _ (cellNew w _ _ 0 _ rfl)
    have hy1 := hcell 1 _ (cellNew w _ _ 1 _ rfl)
    have hy2 := hcell 2 _ (cellNew w _ _ 2 _ rfl)
    have hy3 := hcell 3 _ (cellNew w _ _ 3 _ rfl)
    have hy4 := hcell 4 _ (cellNew w _ _ 4 _ rfl)
    have hy5 := hcell 5 _ (cellNew w _ _ 5 _ rfl)
    have hz : w.heap.size + 1 ≤ w1.heap.size := by have := hb.size; simpa using this
    have HB := Lib.hid hb
    clear hb hcell
    cases hs : okText text.toList
    all_goals
      have HS := Lib.hid hs
      rw [hs] at hr
      clear hs
      go_wp2
      all_goals (go_ret; exact ⟨by first | (refine bool_returned ?_; rw [HM.out, HS.out]; clear HS HM; simp [*]; done), by first | exact bel2 (belA w _) HB.out | exact bel2 (bel2 (belA w _) HB.out) (belA w1 _) | exact bel2 (bel2 (bel2 (belA w _) HB.out) (belA w1 _)) (belA _ _)⟩)
set_option maxHeartbeats 1000000 in
theorem may_else (op pre atom n num : Int) (text : ByteArray) (w : World) (h : op < 1 ∨ 7 < op) :
    Calls Tryd.prog 28 #[stepV op pre atom n num text] w fun e w' => e = .returned (.bool (mayB ⟨op, pre, atom, n, num, text⟩)) ∧ Below w.heap.size w w' := by
  have HM : Hid (mayB ⟨op, pre, atom, n, num, text⟩ = false) := by
    show mayB _ = false
    unfold mayB
    rw [if_neg (by show ¬ op = 1; omega), if_neg (by show ¬ op = 2; omega), if_neg (by show ¬ (op = 3 ∨ op = 4 ∨ op = 5); omega), if_neg (by show ¬ (op = 6 ∨ op = 7); omega)]
  have b1 : (op == 1) = false := by simp; omega
  have b2 : (op == 2) = false := by simp; omega
  have b3 : (op == 3) = false := by simp; omega
  have b4 : (op == 4) = false := by simp; omega
  have b5 : (op == 5) = false := by simp; omega
  have b6 : (op == 6) = false := by simp; omega
  have b7 : (op == 7) = false := by simp; omega
  clear h
  go_enter Tryd.func28, Tryd.ntmps28
  go_wp2
  go_ret
  exact ⟨by rw [HM.out]; rfl, belA _ _⟩
theorem may_any (op pre atom n num : Int) (text : ByteArray) (w : World) (hL : Laid w) :
    Calls Tryd.prog 28 #[stepV op pre atom n num text] w fun e w' => e = .returned (.bool (mayB ⟨op, pre, atom, n, num, text⟩)) ∧ Below w.heap.size w w' := by
  by_cases h1 : op = 1
  · subst h1; exact may_num _ _ _ _ _ _
  by_cases h2 : op = 2
  · subst h2; exact may_sym _ _ _ _ _ _ hL
  by_cases h3 : op = 3 ∨ op = 4 ∨ op = 5
  · exact may_plain _ _ _ _ _ _ _ h3
  by_cases h4 : op = 6 ∨ op = 7
  · exact may_note _ _ _ _ _ _ _ h4
  exact may_else _ _ _ _ _ _ _ (by omega)
end Go.Proofs.YteiialpecaebdaaDoor
