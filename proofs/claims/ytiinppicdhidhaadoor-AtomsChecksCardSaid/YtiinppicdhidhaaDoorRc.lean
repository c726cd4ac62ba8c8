/-
  The reference's Check, its parts: letter.
-/
import Derived.Test.YtiinppicdhidhaaDoorCe
set_option linter.unusedVariables false
set_option linter.unusedSimpArgs false
namespace Go.Proofs.YtiinppicdhidhaaDoor
open Go.RowKit
open Go.Proofs

def letterB (n : Int) (small : Bool) : Bool := if 97 ≤ n ∧ n ≤ 122 then small else (decide (65 ≤ n) && decide (n ≤ 90)) || n == 37 || n == 39 || n == 95 || n == 91 || n == 93
theorem letter_ok (n : Int) (fold : Bool) : letterB n (!fold) = okR fold n := by
  unfold letterB okR markR
  by_cases h : 97 ≤ n ∧ n ≤ 122
  · rw [if_pos h]
    have h1 : decide (97 ≤ n) = true := decide_eq_true h.1
    have h2 : decide (n ≤ 122) = true := decide_eq_true h.2
    have h3 : decide (n ≤ 90) = false := decide_eq_false (by omega)
    have h4 : (n == 37) = false := by simp; omega
    have h5 : (n == 39) = false := by simp; omega
    have h6 : (n == 95) = false := by simp; omega
    have h7 : (n == 91) = false := by simp; omega
    have h8 : (n == 93) = false := by simp; omega
    simp [h1, h2, h3, h4, h5, h6, h7, h8]
  · rw [if_neg h]
    have h1 : (decide (97 ≤ n) && decide (n ≤ 122)) = false := by simp; omega
    rw [h1]
    simp [Bool.or_assoc]
set_option maxRecDepth 100000 in
set_option maxHeartbeats 2000000 in
theorem letter_any (n : Int) (small : Bool) (w : World) (h0 : 0 ≤ n) (h1 : n < 256) : Calls Tryd.prog 42 #[.int .u8 n, .bool small] w fun e w' => e = .returned (.bool (letterB n small)) ∧ w = w' := by
  by_cases a0 : 97 ≤ n
  · by_cases a1 : n ≤ 122
    · have HO : Hid (letterB n small = small) := by show _ = _; rw [letterB, if_pos ⟨a0, a1⟩]
      have d0 : decide (97 ≤ n) = true := decide_eq_true a0
      have d1 : decide (n ≤ 122) = true := decide_eq_true a1
      go_enter Tryd.func42, Tryd.ntmps42
      go_wp2_with fail
      go_ret
      exact ⟨by rw [HO.out]; rfl, rfl⟩
    · have HO : Hid (letterB n small = false) := by
        show _ = _
        have h3 : decide (n ≤ 90) = false := decide_eq_false (by omega)
        have h4 : (n == 37) = false := by simp; omega
        have h5 : (n == 39) = false := by simp; omega
        have h6 : (n == 95) = false := by simp; omega
        have h7 : (n == 91) = false := by simp; omega
        have h8 : (n == 93) = false := by simp; omega
        rw [letterB, if_neg (by omega), h3, h4, h5, h6, h7, h8]
        simp
      have d0 : decide (97 ≤ n) = true := decide_eq_true a0
      have d1 : decide (n ≤ 122) = false := decide_eq_false a1
      have d2 : decide (65 ≤ n) = true := decide_eq_true (by omega)
      have d3 : decide (n ≤ 90) = false := decide_eq_false (by omega)
      have h4 : (n == 37) = false := by simp; omega
      have h5 : (n == 39) = false := by simp; omega
      have h6 : (n == 95) = false := by simp; omega
      have h7 : (n == 91) = false := by simp; omega
      have h8 : (n == 93) = false := by simp; omega
      go_enter Tryd.func42, Tryd.ntmps42
      go_wp2_with fail
      go_ret
      exact ⟨by rw [HO.out]; rfl, rfl⟩
  · have d0 : decide (97 ≤ n) = false := decide_eq_false a0
    have hL : letterB n small = ((decide (65 ≤ n) && decide (n ≤ 90)) || n == 37 || n == 39 || n == 95 || n == 91 || n == 93) := by rw [letterB, if_neg (by omega)]
    by_cases c0 : 65 ≤ n ∧ n ≤ 90
    · have HO : Hid (letterB n small = true) := by show _ = _; rw [hL]; simp [c0]
      have d2 : decide (65 ≤ n) = true := decide_eq_true c0.1
      have d3 : decide (n ≤ 90) = true := decide_eq_true c0.2
      clear hL c0
      go_enter Tryd.func42, Tryd.ntmps42
      go_wp2_with fail
      go_ret
      exact ⟨by rw [HO.out]; rfl, rfl⟩
    · have hL2 : letterB n small = (n == 37 || n == 39 || n == 95 || n == 91 || n == 93) := by
        rw [hL]
        have : (decide (65 ≤ n) && decide (n ≤ 90)) = false := by simp; omega
        rw [this]; simp
      have HL := Lib.hid hL2
      clear hL hL2
      by_cases c1 : 65 ≤ n
      · have d2 : decide (65 ≤ n) = true := decide_eq_true c1
        have d3 : decide (n ≤ 90) = false := decide_eq_false (by omega)
        have f37 : (n == 37) = false := by simp; omega
        have f39 : (n == 39) = false := by simp; omega
        by_cases e95 : n = 95
        · subst e95
          have HO : Hid (letterB 95 small = true) := by show _ = _; rw [HL.out]; rfl
          clear d0 d2 d3 f37 f39
          go_enter Tryd.func42, Tryd.ntmps42
          go_wp2_with fail
          go_ret
          exact ⟨by rw [HO.out]; rfl, rfl⟩
        have f95 : (n == 95) = false := by simp; omega
        by_cases e91 : n = 91
        · subst e91
          have HO : Hid (letterB 91 small = true) := by show _ = _; rw [HL.out]; rfl
          clear d0 d2 d3 f37 f39 f95
          go_enter Tryd.func42, Tryd.ntmps42
          go_wp2_with fail
          go_ret
          exact ⟨by rw [HO.out]; rfl, rfl⟩
        have f91 : (n == 91) = false := by simp; omega
        by_cases e93 : n = 93
        · subst e93
          have HO : Hid (letterB 93 small = true) := by show _ = _; rw [HL.out]; rfl
          clear d0 d2 d3 f37 f39 f95 f91
          go_enter Tryd.func42, Tryd.ntmps42
          go_wp2_with fail
          go_ret
          exact ⟨by rw [HO.out]; rfl, rfl⟩
        have f93 : (n == 93) = false := by simp; omega
        have HO : Hid (letterB n small = false) := by show _ = _; rw [HL.out, f37, f39, f95, f91, f93]; rfl
        go_enter Tryd.func42, Tryd.ntmps42
        go_wp2_with fail
        go_ret
        exact ⟨by rw [HO.out]; rfl, rfl⟩
      · have d2 : decide (65 ≤ n) = false := decide_eq_false c1
        have f95 : (n == 95) = false := by simp; omega
        have f91 : (n == 91) = false := by simp; omega
        have f93 : (n == 93) = false := by simp; omega
        by_cases e37 : n = 37
        · subst e37
          have HO : Hid (letterB 37 small = true) := by show _ = _; rw [HL.out]; rfl
          clear d0 d2 f95 f91 f93
          go_enter Tryd.func42, Tryd.ntmps42
          go_wp2_with fail
          go_ret
          exact ⟨by rw [HO.out]; rfl, rfl⟩
        have f37 : (n == 37) = false := by simp; omega
        by_cases e39 : n = 39
        · subst e39
          have HO : Hid (letterB 39 small = true) := by show _ = _; rw [HL.out]; rfl
          clear d0 d2 f95 f91 f93 f37
          go_enter Tryd.func42, Tryd.ntmps42
          go_wp2_with fail
          go_ret
          exact ⟨by rw [HO.out]; rfl, rfl⟩
        have f39 : (n == 39) = false := by simp; omega
        have HO : Hid (letterB n small = false) := by show _ = _; rw [HL.out, f37, f39, f95, f91, f93]; rfl
        go_enter Tryd.func42, Tryd.ntmps42
        go_wp2_with fail
        go_ret
        exact ⟨by rw [HO.out]; rfl, rfl⟩
set_option maxRecDepth 100000 in
set_option maxHeartbeats 2000000 in
theorem refcode_any (n : Int) (s : ByteArray) (w : World) (h1 : 1 ≤ n) (h5 : n ≤ 5) (hs : s.size ≤ maxLen) : Calls Tryd.prog 33 #[.int .i64 n, .string s] w fun e w' => e = .returned (.bool (codeB n s)) ∧ w = w' := by
  unfold maxLen at hs
  by_cases hl : 8 < s.size
  · have HO : Hid (codeB n s = false) := by show _ = _; rw [codeB, decide_eq_false (by omega)]; rfl
    have d0 : decide (8 < (s.size : Int)) = true := by simp; omega
    go_enter Tryd.func33, Tryd.ntmps33
    go_wp2_with fail
    go_ret
    exact ⟨by rw [HO.out]; rfl, rfl⟩
  · have d0 : decide (8 < (s.size : Int)) = false := by simp; omega
    have HO : Hid (codeB n s = allOk (foldB n) s) := by show _ = _; rw [codeB, decide_eq_true (by omega)]; rfl
    go_enter Tryd.func33, Tryd.ntmps33
    go_wp2_with fail
    go_loop [5] (fun i => ∃ k : Nat, k ≤ s.size ∧ i = .int .i64 (k : Int) ∧ okTo (foldB n) s k) (fun i => s.size - (intOf i).toNat)
    case atStart => exact ⟨0, by omega, rfl, fun j _ hj => by omega⟩
    case round =>
      obtain ⟨k, hk, rfl, hok⟩ := hrel
      have HOK := Lib.hid hok
      clear hok
      by_cases hlt : k < s.size
      · have hn5 : n = 1 ∨ n = 2 ∨ n = 3 ∨ n = 4 ∨ n = 5 := by omega
        have hb : ((s[k].toNat : Nat) : Int) < 256 := by have := s[k].toNat_lt; omega
        obtain ⟨o, ho⟩ : ∃ o, okC8 (foldB n) s[k] = o := ⟨_, rfl⟩
        have HLT : Hid (letterB ((s[k].toNat : Nat) : Int) (!foldB n) = o) := by show _ = _; rw [letter_ok, ← ho]; rfl
        have HOO := Lib.hid ho
        clear ho
        rcases hn5 with rfl | rfl | rfl | rfl | rfl
        all_goals
          cases o
          case false =>
            go_wp2_with fail
            refine (letter_any _ _ _ (by omega) hb).mono ?_
            rintro e wx ⟨rfl, rfl⟩
            first
              | rw [show letterB ((s[k].toNat : Nat) : Int) true = false from HLT.out]
              | rw [show letterB ((s[k].toNat : Nat) : Int) false = false from HLT.out]
            go_wp2_with fail
            go_ret
            exact ⟨by rw [HO.out, allOk_no hlt HOO.out]; rfl, rfl⟩
          case true =>
            go_wp2_with fail
            refine (letter_any _ _ _ (by omega) hb).mono ?_
            rintro e wx ⟨rfl, rfl⟩
            first
              | rw [show letterB ((s[k].toNat : Nat) : Int) true = true from HLT.out]
              | rw [show letterB ((s[k].toNat : Nat) : Int) false = true from HLT.out]
            go_wp2_with fail
            go_round
            case rel => exact ⟨k + 1, by omega, by go_num, fun j hj hj2 => by
              by_cases e : j = k
              · subst e; exact HOO.out
              · exact HOK.out j hj (by omega)⟩
            case measure => simp [intOf]; omega
      · obtain rfl : k = s.size := by omega
        go_wp2_with fail
        go_ret
        exact ⟨by rw [HO.out, allOk_yes HOK.out]; rfl, rfl⟩
end Go.Proofs.YtiinppicdhidhaaDoor
