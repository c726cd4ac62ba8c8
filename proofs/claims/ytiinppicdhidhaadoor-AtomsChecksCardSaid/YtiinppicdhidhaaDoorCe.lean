/-
  atoms.code: whether a text is empty, or a code of a notation.
-/
import Derived.Test.YtiinppicdhidhaaDoorCd
import Derived.RangeFuncRecord
import Derived.RangeFuncBound
import Derived.RangeFuncKeeps
set_option linter.unusedVariables false
set_option linter.unusedSimpArgs false
namespace Go.Proofs.YtiinppicdhidhaaDoor
open Go.RowKit
open Go.Proofs

def markR (c : Int) : Bool := c == 37 || c == 39 || c == 95 || c == 91 || c == 93
/-- A rune of a code. -/
def okR (fold : Bool) (c : Int) : Bool := (decide (97 ≤ c) && decide (c ≤ 122) && !fold) || (decide (65 ≤ c) && decide (c ≤ 90)) || markR c
theorem mark_low : ∀ n : Nat, n < 128 → decide (0 ≤ Lib.indexByte marks.data.toList ((n : Int)).toNat.toUInt8) = markR (n : Int) := by decide +kernel
theorem contains_any (c : Int) (w : World) (h0 : 0 ≤ c) (h1 : c ≤ 1114111) : Calls Tryd.prog 36 #[.string marks, .int .i32 c] w fun e w' => e = .returned (.bool (markR c)) ∧ Below w.heap.size w w' := by
  by_cases hl : c < 128
  · refine (Tryd.strings_ContainsRune_ascii marks c w h0 hl).mono fun e w' ⟨he, hw⟩ => ⟨?_, by rw [hw]; exact Below.refl _ _⟩
    obtain ⟨n, rfl⟩ : ∃ n : Nat, c = n := ⟨c.toNat, by omega⟩
    rw [he, mark_low n (by omega)]
  · have hm : markR c = false := by simp [markR]; omega
    have HM := Lib.hid hm
    clear hm
    go_enter Tryd.func36, Tryd.ntmps36
    go_wp2_with fail
    by_cases hb : c = 65533
    · subst hb
      refine (rune_bad _).mono ?_
      rintro e w' ⟨rfl, hbw⟩
      go_wp2_with fail
      go_ret
      exact ⟨by rw [HM.out]; rfl, hbw⟩
    · refine (rune_high c _ (by omega) h1 hb).mono ?_
      rintro e w' ⟨rfl, hbw⟩
      go_wp2_with fail
      go_ret
      exact ⟨by rw [HM.out]; rfl, hbw⟩
set_option maxHeartbeats 1000000 in
theorem bad_any (fold : Bool) (c : Int) (Fb : Nat) (w : World) (hF : w.cell? ⟨Fb, 0, none⟩ = some (.bool fold)) (h0 : 0 ≤ c) (h1 : c ≤ 1114111) :
    Calls Tryd.prog 35 #[.int .i32 c, .pointer (some ⟨Fb, 0, none⟩)] w fun e w' => e = .returned (.bool (!okR fold c)) ∧ Below w.heap.size w w' := by
  by_cases ha : 97 ≤ c ∧ c ≤ 122
  · obtain ⟨a1, a2⟩ := ha
    have hd : decide (c ≤ 122) = true := by simpa using a2
    have hd2 : decide (c ≤ 90) = false := by simp; omega
    have hm : markR c = false := by simp [markR]; omega
    have HO : Hid (okR fold c = !fold) := by
      show _ = _
      rw [okR, hm, hd, decide_eq_true a1, hd2]
      cases fold <;> simp
    have HM := Lib.hid hm
    clear hm
    cases fold
    · go_enter Tryd.func35, Tryd.ntmps35
      go_wp2_with fail
      go_ret
      exact ⟨by rw [HO.out]; rfl, Below.refl _ _⟩
    · go_enter Tryd.func35, Tryd.ntmps35
      go_wp2_with fail
      refine (contains_any c _ h0 h1).mono ?_
      rintro e w' ⟨rfl, hbw⟩
      rw [HM.out]
      go_wp2_with fail
      go_ret
      exact ⟨by rw [HO.out]; rfl, hbw⟩
  · have hs : (decide (97 ≤ c) && decide (c ≤ 122)) = false := by simp; omega
    have hac : c < 97 ∨ (97 ≤ c ∧ ¬ c ≤ 122) := by omega
    by_cases hb : 65 ≤ c ∧ c ≤ 90
    · obtain ⟨b1, b2⟩ := hb
      have hd2 : decide (c ≤ 90) = true := by simpa using b2
      have HO : Hid (okR fold c = true) := by show _ = _; simp [okR]; omega
      have hd3 : ¬ 97 ≤ c := by omega
      clear hs hac ha
      go_enter Tryd.func35, Tryd.ntmps35
      go_wp2_with fail
      go_ret
      exact ⟨by rw [HO.out]; rfl, Below.refl _ _⟩
    · have HO : Hid (okR fold c = markR c) := by
        show _ = _
        have hu : (decide (65 ≤ c) && decide (c ≤ 90)) = false := by simp; omega
        simp [okR, hs, hu]
      have hbc : c < 65 ∨ (65 ≤ c ∧ ¬ c ≤ 90) := by omega
      clear hs ha hb
      rcases hac with hac | ⟨hac, hac2⟩
      · rcases hbc with hbc | ⟨hbc, hbc2⟩
        all_goals
          first
            | (have hd2 : decide (c ≤ 90) = false := by simp; omega)
            | skip
          go_enter Tryd.func35, Tryd.ntmps35
          go_wp2_with fail
          refine (contains_any c _ h0 h1).mono ?_
          rintro e w' ⟨rfl, hbw⟩
          generalize markR c = b at HO ⊢
          go_wp2_with fail
          go_ret
          exact ⟨by rw [HO.out]; rfl, hbw⟩
      · have hd1 : decide (c ≤ 122) = false := by simp; omega
        have hd2 : decide (c ≤ 90) = false := by simp; omega
        have hd3 : 65 ≤ c := by omega
        go_enter Tryd.func35, Tryd.ntmps35
        go_wp2_with fail
        refine (contains_any c _ h0 h1).mono ?_
        rintro e w' ⟨rfl, hbw⟩
        generalize markR c = b at HO ⊢
        go_wp2_with fail
        go_ret
        exact ⟨by rw [HO.out]; rfl, hbw⟩
/-! A range over a string whose rounds turn the world. -/
theorem run_next_go {P : Program} (wr : World) (k : Nat) (s : ByteArray) (pos : Nat) (ty : TypeId) (hk : wr.heap[k]? = some (.stringIter s pos)) (h : pos < s.size) :
    (Instr.next (.pointer (some ⟨k, 0, none⟩)) true ty).run P wr = .ok (.tuple #[.bool true, .int .i64 pos, .int .i32 (Utf8.decode s pos).1]) (wr.putObj k (.stringIter s (pos + (Utf8.decode s pos).2))) := by
  have hlt : k < wr.heap.size := (Array.getElem?_eq_some_iff.1 hk).1
  simp [Instr.next, getObj, setObj, Sem.run_bind, Sem.run, hk, Result.andThen, h, goInt, World.putObj]
theorem run_next_stop {P : Program} (wr : World) (k : Nat) (s : ByteArray) (pos : Nat) (ty : TypeId) (hk : wr.heap[k]? = some (.stringIter s pos)) (h : ¬ pos < s.size) :
    (Instr.next (.pointer (some ⟨k, 0, none⟩)) true ty).run P wr = .ok (.tuple #[.bool false]) wr := by
  simp [Instr.next, getObj, Sem.run_bind, Sem.run, hk, Result.andThen, h]
theorem decode_max (s : ByteArray) (pos : Nat) : (Utf8.decode s pos).1 ≤ 1114111 := by
  simp only [Utf8.decode]
  repeat' split
  all_goals simp_all [Utf8.runeError, Utf8.valid]
  all_goals omega
def okC8 (fold : Bool) (c : UInt8) : Bool := okR fold (c.toNat : Int)
def allOk (fold : Bool) (s : ByteArray) : Bool := s.toList.all (okC8 fold)
def okTo (fold : Bool) (s : ByteArray) (n : Nat) : Prop := ∀ j (h : j < s.size), j < n → okC8 fold (s[j]'h) = true
theorem list_at (s : ByteArray) : s.toList.length = s.size ∧ ∀ j (h : j < s.size) (h2 : j < s.toList.length), s.toList[j] = s[j]'h := by
  rw [ByteArray.toList_eq]
  exact ⟨rfl, fun j h h2 => rfl⟩
theorem allOk_yes {fold : Bool} {s : ByteArray} (h : okTo fold s s.size) : allOk fold s = true := by
  obtain ⟨hl, ha⟩ := list_at s
  unfold allOk
  rw [List.all_eq_true]
  intro c hc
  obtain ⟨j, hj, rfl⟩ := List.getElem_of_mem hc
  rw [ha j (by omega) hj]
  exact h j (by omega) (by omega)
theorem allOk_no {fold : Bool} {s : ByteArray} {j : Nat} (hj : j < s.size) (h : okC8 fold (s[j]'hj) = false) : allOk fold s = false := by
  obtain ⟨hl, ha⟩ := list_at s
  unfold allOk
  rw [List.all_eq_false]
  refine ⟨s.toList[j]'(by omega), List.getElem_mem _, ?_⟩
  rw [ha j hj (by omega), h]
  simp
theorem okR_high (fold : Bool) (c : Int) (h : 128 ≤ c) : okR fold c = false := by
  have e1 : decide (c ≤ 122) = false := by simp; omega
  have e2 : decide (c ≤ 90) = false := by simp; omega
  have e3 : markR c = false := by simp [markR]; omega
  rw [okR, e1, e2, e3]
  simp
abbrev fBad (Fb : Nat) : Value := .func (.func 35) #[] #[.pointer (some ⟨Fb, 0, none⟩)]
def IxOk (w : World) (b : Bool) (e : Ending) (w' : World) : Prop := ∃ r : Int, e = .returned (.int .i64 r) ∧ decide (r < 0) = b ∧ Below w.heap.size w w'
set_option maxHeartbeats 1000000 in
theorem index_any (fold : Bool) (s : ByteArray) (Fb : Nat) (w : World) (hF : w.cell? ⟨Fb, 0, none⟩ = some (.bool fold)) : Calls Tryd.prog 47 #[.string s, fBad Fb, .bool true] w (IxOk w (allOk fold s)) := by
  have HF := Lib.hid hF
  clear hF
  go_enter Tryd.func47, Tryd.ntmps47
  go_wp2
  go_loopg [] (s.size + 1) (fun r w' => ∃ pos : Nat, pos ≤ s.size ∧ r = s.size + 1 - pos ∧ w'.heap[w.heap.size]? = some (.stringIter s pos) ∧ Below w.heap.size w w' ∧ okTo fold s pos)
  case atStart => exact ⟨0, by omega, by omega, World.iter_heap w s 0, (Below.refl _ w).alloc (Nat.le_refl _) _, fun j h h2 => by omega⟩
  case round =>
    obtain ⟨pos, hle, hgk, hk, hbw, hok⟩ := hrel
    have HK := Lib.hid hk
    have HBW := Lib.hid hbw
    have HOK := Lib.hid hok
    have HGK := Lib.hid hgk
    have hks : w.heap.size < wr.heap.size := (Array.getElem?_eq_some_iff.1 hk).1
    clear hk hbw hok hgk
    by_cases hp : pos < s.size
    · have hnx : ∀ ty, (Instr.next (.pointer (some ⟨w.heap.size, 0, none⟩)) true ty).run Tryd.prog wr = _ := fun ty => run_next_go wr w.heap.size s pos ty HK.out hp
      have HC : Hid ((Utf8.decode s pos).1 < 128 ∧ Utf8.decode s pos = ((s[pos]'hp).toNat, 1) ∧ (s[pos]'hp).toNat < 128 ∨ 128 ≤ (Utf8.decode s pos).1 ∧ 128 ≤ (s[pos]'hp).toNat) := by
        by_cases ha : (s[pos]'hp).toNat < 128
        · exact .inl ⟨by rw [decode_ascii s pos hp ha]; exact ha, decode_ascii s pos hp ha, ha⟩
        · exact .inr ⟨(decode_high s pos hp (by omega)).1, by omega⟩
      have hmx := decode_max s pos
      have HW1 : Hid (Below w.heap.size w (wr.putObj w.heap.size (.stringIter s (pos + (Utf8.decode s pos).2)))) := HBW.out.grown (grownBy_putObj' wr w.heap.size _) (Nat.le_of_lt hks) (fun q e => by cases e; exact Nat.le_refl _)
      have HS1 : Hid ((wr.putObj w.heap.size (.stringIter s (pos + (Utf8.decode s pos).2))).heap[w.heap.size]? = some (.stringIter s (pos + (Utf8.decode s pos).2))) := World.putObj_heap_same hks
      generalize Utf8.decode s pos = d at hnx HC hmx HW1 HS1
      obtain ⟨c, wd⟩ := d
      simp only at hnx HC hmx HW1 HS1
      have hF1 : (wr.putObj w.heap.size (.stringIter s (pos + wd))).cell? ⟨Fb, 0, none⟩ = some (.bool fold) := (HW1.out.cell (World.block_lt_of_cell? _ _ HF.out)).trans HF.out
      have HFF := Lib.hid hF1
      generalize wr.putObj w.heap.size (.stringIter s (pos + wd)) = W1 at hnx HW1 HS1 HFF
      clear hF1 hks
      go_wp2_with fail
      refine (bad_any fold c Fb W1 HFF.out (by omega) (by omega)).mono ?_
      rintro e W2 ⟨rfl, hb2⟩
      have HB2 := Lib.hid hb2
      clear hb2
      cases ho : okR fold (c : Int)
      · have HO := Lib.hid ho
        clear ho
        go_wp2_with fail
        go_ret
        refine ⟨pos, rfl, ?_, HW1.out.trans (HB2.out.mono HW1.out.size)⟩
        have hno : okC8 fold (s[pos]'hp) = false := by
          rcases HC.out with ⟨h1, h2, h3⟩ | ⟨h1, h2⟩
          · simp only [Prod.mk.injEq] at h2
            rw [okC8, ← h2.1]
            exact HO.out
          · exact okR_high _ _ (by omega)
        rw [allOk_no hp hno]
        simp
      · have HO := Lib.hid ho
        clear ho
        have hlow : c = (s[pos]'hp).toNat ∧ wd = 1 := by
          rcases HC.out with ⟨h1, h2, h3⟩ | ⟨h1, h2⟩
          · simpa using h2
          · have := okR_high fold (c : Int) (by omega)
            rw [HO.out] at this
            cases this
        have HLW := Lib.hid hlow
        clear hlow
        go_wp2_with fail
        go_roundg (s.size + 1 - (pos + 1))
        case measure => have := HGK.out; omega
        case rel =>
          refine ⟨pos + 1, by omega, rfl, ?_, HW1.out.trans (HB2.out.mono HW1.out.size), fun j h h2 => ?_⟩
          · rw [← HLW.out.2]
            exact (HB2.out.block w.heap.size (Array.getElem?_eq_some_iff.1 HS1.out).1).trans HS1.out
          · by_cases e : j = pos
            · subst e
              rw [okC8, ← HLW.out.1]
              exact HO.out
            · exact HOK.out j h (by omega)
    · have hnx : ∀ ty, (Instr.next (.pointer (some ⟨w.heap.size, 0, none⟩)) true ty).run Tryd.prog wr = _ := fun ty => run_next_stop wr w.heap.size s pos ty HK.out hp
      obtain rfl : pos = s.size := by omega
      go_wp2_with fail
      go_ret
      exact ⟨-1, rfl, by rw [allOk_yes HOK.out]; rfl, HBW.out⟩
set_option maxHeartbeats 400000 in
theorem Index_any (fold : Bool) (s : ByteArray) (Fb : Nat) (w : World) (hF : w.cell? ⟨Fb, 0, none⟩ = some (.bool fold)) : Calls Tryd.prog 37 #[.string s, fBad Fb] w (IxOk w (allOk fold s)) := by
  go_enter Tryd.func37, Tryd.ntmps37
  go_wp2_with fail
  refine (index_any fold s Fb w hF).mono ?_
  rintro e w1 ⟨r, rfl, hr, hb⟩
  go_wp2_with fail
  go_ret
  exact ⟨r, rfl, hr, hb⟩
def foldB (n : Int) : Bool := n == 2 || n == 4
/-- Whether a text is empty, or a code of a notation. -/
def codeB (n : Int) (s : ByteArray) : Bool := decide (s.size ≤ 8) && allOk (foldB n) s
set_option maxHeartbeats 1000000 in
theorem code_any (n : Int) (s : ByteArray) (w : World) (hs : s.size ≤ maxLen) (hn : 1 ≤ n) (hn5 : n ≤ 5) : Calls Tryd.prog 29 #[.int .i64 n, .string s] w fun e w' => e = .returned (.bool (codeB n s)) ∧ Below w.heap.size w w' := by
  unfold maxLen at hs
  have hn5' : n = 1 ∨ n = 2 ∨ n = 3 ∨ n = 4 ∨ n = 5 := by omega
  rcases hn5' with rfl | rfl | rfl | rfl | rfl
  all_goals
    by_cases h8 : s.size ≤ 8
    · go_enter Tryd.func29, Tryd.ntmps29
      go_wp2_with fail
      refine (Index_any _ s w.heap.size _ (cellNew w _ _ 0 _ rfl)).mono ?_
      rintro e w1 ⟨r, rfl, hr, hb⟩
      have HR := Lib.hid hr
      clear hr
      go_wp2_with fail
      go_ret
      exact ⟨by rw [codeB, decide_eq_true h8, Bool.true_and]; exact congrArg (fun b => Ending.returned (Value.bool b)) HR.out, (((Below.refl _ w).alloc (Nat.le_refl _) _).trans (hb.mono (by simp)))⟩
    · go_enter Tryd.func29, Tryd.ntmps29
      go_wp2_with fail
      go_ret
      exact ⟨by rw [codeB, decide_eq_false h8]; rfl, (Below.refl _ w).alloc (Nat.le_refl _) _⟩
end Go.Proofs.YtiinppicdhidhaaDoor
