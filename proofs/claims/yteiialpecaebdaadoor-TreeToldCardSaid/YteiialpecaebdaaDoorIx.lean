/-
  strings.IndexFunc with the step's own test; the rest of may.
-/
import Derived.Test.YteiialpecaebdaaDoorSt
import Derived.Laws.RangeString
import Derived.Laws.RangeAny
set_option linter.unusedVariables false
set_option linter.unusedSimpArgs false
namespace Go.Proofs.YteiialpecaebdaaDoor
open Go.RowKit
open Go.Proofs

def okByte (c : UInt8) : Bool := decide (32 ≤ c.toNat) && decide (c.toNat ≤ 126)
def okAt (s : ByteArray) (n : Nat) : Prop := ∀ j (h : j < s.size), j < n → okByte (s[j]'h) = true
theorem list_at (s : ByteArray) : s.toList.length = s.size ∧ ∀ j (h : j < s.size) (h2 : j < s.toList.length), s.toList[j] = s[j]'h := by
  rw [ByteArray.toList_eq]
  exact ⟨rfl, fun j h h2 => rfl⟩
theorem okText_all {s : ByteArray} (h : okAt s s.size) : okText s.toList = true := by
  obtain ⟨hl, ha⟩ := list_at s
  unfold okText
  rw [List.all_eq_true]
  intro c hc
  obtain ⟨j, hj, rfl⟩ := List.getElem_of_mem hc
  rw [ha j (by omega) hj]
  exact h j (by omega) (by omega)
theorem okText_no {s : ByteArray} {j : Nat} (hj : j < s.size) (h : okByte (s[j]'hj) = false) : okText s.toList = false := by
  obtain ⟨hl, ha⟩ := list_at s
  unfold okText
  rw [List.all_eq_false]
  refine ⟨s.toList[j]'(by omega), List.getElem_mem _, ?_⟩
  rw [ha j hj (by omega)]
  show ¬ okByte _ = true
  rw [h]; simp
abbrev fMay1 : Value := .func (.func 41) #[] #[]
def IxOk (w : World) (s : ByteArray) (e : Ending) (w' : World) : Prop := ∃ r : Int, e = .returned (.int .i64 r) ∧ decide (r < 0) = okText s.toList ∧ Below w.heap.size w w'
theorem iterBelow (w : World) (s : ByteArray) (p : Nat) : Below w.heap.size w (w.iter s p) := belA w _
set_option maxHeartbeats 1000000 in
theorem index_any (s : ByteArray) (w : World) : Calls Tryd.prog 49 #[.string s, fMay1, .bool true] w (IxOk w s) := by
  go_enter Tryd.func49, Tryd.ntmps49
  go_wp2
  go_loopw [6] (fun n w' => ∃ pos : Nat, pos ≤ s.size ∧ w' = w.iter s pos ∧ n = .int .i64 0 ∧ okAt s pos) (fun _ w' => s.size - w'.iterPos w.heap.size)
  case atStart => exact ⟨0, by omega, rfl, rfl, fun j h h2 => by omega⟩
  case round =>
    obtain ⟨pos, hle, rfl, rfl, hok⟩ := hrel
    by_cases hp : pos < s.size
    · by_cases ha : (s[pos]'hp).toNat < 128
      · have hnx : ∀ ty, (Instr.next (.pointer (some ⟨w.heap.size, 0, none⟩)) true ty).run Tryd.prog (w.iter s pos) = _ := fun ty => run_next_ascii w s pos ty hp ha
        have HOK := Lib.hid hok
        clear hok
        go_wp2_with (go_at_call 41; refine (may1_any _ _).mono ?_; rintro e wx ⟨rfl, rfl⟩)
        · rename_i hbad
          go_ret
          refine ⟨pos, rfl, ?_, iterBelow _ _ _⟩
          rw [okText_no hp (by unfold okByte; rcases hbad with h | h; (rw [decide_eq_false (by omega)]; rfl); (rw [decide_eq_false (p := _ ≤ 126) (by omega)]; simp))]
          simp
        · rename_i hgood
          go_roundw
          case rel => exact ⟨pos + 1, by omega, rfl, rfl, fun j h h2 => by
            by_cases e : j = pos
            · subst e
              unfold okByte
              rw [decide_eq_true (by omega), decide_eq_true (by omega)]; rfl
            · exact HOK.out j h (by omega)⟩
          case measure => simp; omega
      · have hnx : ∀ ty, (Instr.next (.pointer (some ⟨w.heap.size, 0, none⟩)) true ty).run Tryd.prog (w.iter s pos) = _ := fun ty => run_next_any w s pos ty hp
        have hh := decode_high s pos hp (by omega)
        have hd1 : decide (((Utf8.decode s pos).1 : Int) < 32) = false := by simp; omega
        have hd2 : decide (126 < ((Utf8.decode s pos).1 : Int)) = true := by simp; omega
        clear hok
        go_wp2_with (go_at_call 41; refine (may1_any _ _).mono ?_; rintro e wx ⟨rfl, rfl⟩)
        go_ret
        refine ⟨pos, rfl, ?_, iterBelow _ _ _⟩
        rw [okText_no hp (by unfold okByte; rw [decide_eq_false (p := _ ≤ 126) (by omega)]; simp)]
        simp
    · have hnx : ∀ ty, (Instr.next (.pointer (some ⟨w.heap.size, 0, none⟩)) true ty).run Tryd.prog (w.iter s pos) = _ := fun ty => run_next_end w s pos ty hp
      have HOK := Lib.hid hok
      clear hok
      go_wp2
      go_ret
      obtain rfl : pos = s.size := by omega
      exact ⟨-1, rfl, by rw [okText_all HOK.out]; rfl, iterBelow _ _ _⟩
set_option maxHeartbeats 400000 in
theorem Index_any (s : ByteArray) (w : World) : Calls Tryd.prog 42 #[.string s, fMay1] w (IxOk w s) := by
  go_enter Tryd.func42, Tryd.ntmps42
  go_wp2_with fail
  refine (index_any s w).mono ?_
  rintro e w1 ⟨r, rfl, hr, hb⟩
  go_wp2_with fail
  go_ret
  exact ⟨r, rfl, hr, hb⟩
end Go.Proofs.YteiialpecaebdaaDoor
