/-
  One step: the contracts of takes, symbol, may.
-/
import Derived.Test.YteiialpecaebdaaDoorSp
import Derived.Test.YteiialpecaebdaaDoorTr
set_option linter.unusedVariables false
set_option linter.unusedSimpArgs false
namespace Go.Proofs.YteiialpecaebdaaDoor
open Go.RowKit
open Go.Proofs

abbrev stepV (op pre atom n num : Int) (text : ByteArray) : Value := .agg #[.int .i64 op, .int .i64 pre, .int .i64 atom, .int .i64 n, .int .i64 num, .string text]
theorem bel2 {a b c : World} (h : Below a.heap.size a b) (k : Below b.heap.size b c) : Below a.heap.size a c := h.trans (k.mono h.size)
theorem belA (w : World) (o : Obj) : Below w.heap.size w (w.alloc o) := (Below.refl _ _).alloc (Nat.le_refl _) o
set_option maxHeartbeats 400000 in
theorem takes_any (op pre atom n num : Int) (text : ByteArray) (w : World) :
    Calls Tryd.prog 27 #[stepV op pre atom n num text] w fun e w' => e = .returned (.int .i64 (takesI op)) ∧ Below w.heap.size w w' := by
  by_cases h3 : op = 3
  · subst h3
    go_enter Tryd.func27, Tryd.ntmps27
    go_wp2
    go_ret
    exact ⟨rfl, belA _ _⟩
  by_cases h4 : op = 4
  · subst h4
    go_enter Tryd.func27, Tryd.ntmps27
    go_wp2
    go_ret
    exact ⟨rfl, belA _ _⟩
  by_cases h5 : op = 5
  · subst h5
    go_enter Tryd.func27, Tryd.ntmps27
    go_wp2
    go_ret
    exact ⟨rfl, belA _ _⟩
  by_cases h6 : op = 6
  · subst h6
    go_enter Tryd.func27, Tryd.ntmps27
    go_wp2
    go_ret
    exact ⟨rfl, belA _ _⟩
  have e : Hid (takesI op = 0) := by show takesI op = 0; simp [takesI, h3, h4, h5, h6]
  have b3 : (op == 3) = false := by simpa using h3
  have b4 : (op == 4) = false := by simpa using h4
  have b5 : (op == 5) = false := by simpa using h5
  have b6 : (op == 6) = false := by simpa using h6
  clear h3 h4 h5 h6
  go_enter Tryd.func27, Tryd.ntmps27
  go_wp2
  go_ret
  exact ⟨by rw [e.out]; rfl, belA _ _⟩
set_option maxHeartbeats 400000 in
theorem may1_any (c : Int) (w : World) : Calls Tryd.prog 41 #[.int .i32 c] w fun e w' => e = .returned (.bool (decide (c < 32) || decide (126 < c))) ∧ w = w' := by
  by_cases h : c < 32
  · have hd : decide (c < 32) = true := by simpa using h
    go_enter Tryd.func41, Tryd.ntmps41
    go_wp2
    go_ret
    exact ⟨by simp [h], rfl⟩
  · have hd : decide (c < 32) = false := by simpa using h
    go_enter Tryd.func41, Tryd.ntmps41
    go_wp2
    go_ret
    exact ⟨rfl, rfl⟩
set_option maxHeartbeats 1000000 in
theorem may_num (pre atom n num : Int) (text : ByteArray) (w : World) :
    Calls Tryd.prog 28 #[stepV 1 pre atom n num text] w fun e w' => e = .returned (.bool (mayB ⟨1, pre, atom, n, num, text⟩)) ∧ Below w.heap.size w w' := by
  go_enter Tryd.func28, Tryd.ntmps28
  go_wp2
  all_goals (go_ret; exact ⟨by first | (simp [mayB, noText, *]; done) | (simp [mayB, noText, *]; intros; omega), belA _ _⟩)
theorem atom_metric {w : World} {B g cap : Nat} {ss : Nat → Value} (h : w.ownsRow B 77 12 (.slice (some ⟨g, 0, none⟩) 48 cap) 48 (atomsV 48 ss)) (i : Nat) (hi : i < 48) :
    w.cell? ⟨g, i * 12 + 5, none⟩ = some (.bool (rowAt i).metric) := atom_range h i hi 5 _ rfl
set_option maxHeartbeats 2000000 in
theorem symbol_any (op pre atom n num : Int) (text : ByteArray) (w : World) (hL : Laid w) :
    Calls Tryd.prog 40 #[stepV op pre atom n num text] w fun e w' => e = .returned (.bool (symB ⟨op, pre, atom, n, num, text⟩)) ∧ Below w.heap.size w w' := by
  have HL : Hid (∀ o, Laid (w.alloc o)) := fun o j u hu => cellAlloc o (hL j u hu)
  clear hL
  by_cases ha : 0 ≤ atom ∧ atom < 48
  · obtain ⟨ha1, ha2⟩ := ha
    go_enter Tryd.func40, Tryd.ntmps40
    go_wp2_with fail
    refine (table_ok _ (HL.out _)).mono ?_
    intro e w1 hT
    obtain ⟨a1, c1, a2, c2, ss, rfl, hT, hb⟩ := hT
    obtain ⟨g, cap, hg⟩ := form_of hT.atoms (by omega)
    cases hg
    have hcell : ∀ o, (w1.alloc o).cell? ⟨g, atom.toNat * 12 + 5, none⟩ = some (.bool (metricAt atom)) := fun o => cellAlloc o (atom_metric hT.atoms atom.toNat (by omega))
    have hx : ∀ (j : Nat) (v : Value) (o : Obj), (#[.int .i64 op, .int .i64 pre, .int .i64 atom, .int .i64 n, .int .i64 num, .string text] : Array Value)[j]? = some v → (w1.alloc o).cell? ⟨w.heap.size, j, none⟩ = some v := fun j v o hv =>
      cellAlloc o ((hb.cell (p := ⟨w.heap.size, j, none⟩) (by simp)).trans (cellNew w _ _ j v hv))
    have hx1 := fun o => hx 1 _ o rfl
    have hx2 := fun o => hx 2 _ o rfl
    have hx3 := fun o => hx 3 _ o rfl
    have hz : w.heap.size + 1 ≤ w1.heap.size := by have := hb.size; simpa using this
    have HB := Lib.hid hb
    clear hT hb hx
    go_wp2
    all_goals (go_ret; exact ⟨by first | (simp [symB, *]; done) | (simp [symB, *]; omega) | (simp [symB]; omega), bel2 (bel2 (belA w _) HB.out) (belA w1 _)⟩)
  · have ha' : atom < 0 ∨ (0 ≤ atom ∧ 48 ≤ atom) := by omega
    have hno : symB ⟨op, pre, atom, n, num, text⟩ = false := by
      simp only [symB]
      rcases ha' with h | ⟨h, h'⟩
      · have : decide (0 ≤ atom) = false := by simp; omega
        simp [this]
      · have : decide (atom < 48) = false := by simp; omega
        simp [this]
    have HNO := Lib.hid hno
    clear hno ha
    rcases ha' with ha | ⟨ha, hb0⟩
    all_goals
      go_enter Tryd.func40, Tryd.ntmps40
      go_wp2_with fail
      refine (table_ok _ (HL.out _)).mono ?_
      intro e w1 hT
      obtain ⟨a1, c1, a2, c2, ss, rfl, hT, hb⟩ := hT
      have hx : ∀ (j : Nat) (v : Value) (o : Obj), (#[.int .i64 op, .int .i64 pre, .int .i64 atom, .int .i64 n, .int .i64 num, .string text] : Array Value)[j]? = some v → (w1.alloc o).cell? ⟨w.heap.size, j, none⟩ = some v := fun j v o hv =>
        cellAlloc o ((hb.cell (p := ⟨w.heap.size, j, none⟩) (by simp)).trans (cellNew w _ _ j v hv))
      have hx1 := fun o => hx 1 _ o rfl
      have hx2 := fun o => hx 2 _ o rfl
      have hx3 := fun o => hx 3 _ o rfl
      have hz : w.heap.size + 1 ≤ w1.heap.size := by have := hb.size; simpa using this
      have HB := Lib.hid hb
      clear hT hb hx
      go_wp2
      all_goals (go_ret; exact ⟨by rw [HNO.out]; first | rfl | (simp; omega), bel2 (bel2 (belA w _) HB.out) (belA w1 _)⟩)
end Go.Proofs.YteiialpecaebdaaDoor
