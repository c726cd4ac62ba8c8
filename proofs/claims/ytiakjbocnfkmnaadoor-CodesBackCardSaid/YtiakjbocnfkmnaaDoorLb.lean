/-
  The walk of the law CodesBack.
-/
import Derived.Test.YtiakjbocnfkmnaaDoorL6
set_option linter.unusedVariables false
set_option linter.unusedSimpArgs false
namespace Go.Proofs.YtiakjbocnfkmnaaDoor
open Go.RowKit
open Go.Proofs

/-! Plain: what is told is found, and what is found is told. -/
theorem findA_told (k i : Int) (h1 : 1 ≤ k) (h2 : k ≤ 5) (h3 : 0 ≤ i) (h4 : i < 48) : findA k (codeOf k i) = if codeOf k i = [] then none else some i.toNat := by
  have : ((List.range 5).all fun n => (List.range 48).all fun j => decide (findA (n + 1) (codeOf (n + 1) j) = if codeOf (n + 1) j = [] then none else some j)) = true := by decide +kernel
  have h := List.all_eq_true.1 (List.all_eq_true.1 this (k.toNat - 1) (by simp; omega)) i.toNat (by simp; omega)
  have h := of_decide_eq_true h
  rw [show ((k.toNat - 1 : Nat) : Int) + 1 = k by omega, show ((i.toNat : Nat) : Int) = i by omega] at h
  exact h
theorem findP_told (k i : Int) (h1 : 1 ≤ k) (h2 : k ≤ 5) (h3 : 0 ≤ i) (h4 : i < 20) : findP k (preOf k i) = if preOf k i = [] then none else some i.toNat := by
  have : ((List.range 5).all fun n => (List.range 20).all fun j => decide (findP (n + 1) (preOf (n + 1) j) = if preOf (n + 1) j = [] then none else some j)) = true := by decide +kernel
  have h := List.all_eq_true.1 (List.all_eq_true.1 this (k.toNat - 1) (by simp; omega)) i.toNat (by simp; omega)
  have h := of_decide_eq_true h
  rw [show ((k.toNat - 1 : Nat) : Int) + 1 = k by omega, show ((i.toNat : Nat) : Int) = i by omega] at h
  exact h
theorem told_findA (k : Int) (c : List UInt8) (i : Nat) (h : findA k c = some i) : codeOf k i = c := by
  unfold findA at h
  split at h
  · rename_i hk
    rw [List.find?_range_eq_some] at h
    unfold codeOf
    have hi : i < 48 := by simpa using h.2.1
    rw [if_pos ⟨hk.1, hk.2.1, by omega, by omega⟩]
    simpa using h.1
  · simp at h
theorem told_findP (k : Int) (c : List UInt8) (i : Nat) (h : findP k c = some i) : preOf k i = c := by
  unfold findP at h
  split at h
  · rename_i hk
    rw [List.find?_range_eq_some] at h
    unfold preOf
    have hi : i < 20 := by simpa using h.2.1
    rw [if_pos ⟨hk.1, hk.2.1, by omega, by omega⟩]
    simpa using h.1
  · simp at h
theorem toListMk (l : List UInt8) : (⟨l.toArray⟩ : ByteArray).toList = l := by rw [ByteArray.toList_eq]
def TupOk (w : World) (e : Ending) (w' : World) (i : Int) (b : Bool) : Prop := e = .returned (.tuple #[.int .i64 i, .bool b]) ∧ Below w.heap.size w w'
theorem atom_r {n : Int} {s : ByteArray} {w : World} {r : Option Nat} (hL : Laid w) (h : findA n s.toList = r) : Calls Tryd.prog 13 #[.int .i64 n, .string s] w fun e w' => TupOk w e w' (findI r) (findB r) :=
  (atom_any n s w hL).mono fun e w' h' => by rw [h] at h'; exact h'
theorem prefix_r {n : Int} {s : ByteArray} {w : World} {r : Option Nat} (hL : Laid w) (h : findP n s.toList = r) : Calls Tryd.prog 15 #[.int .i64 n, .string s] w fun e w' => TupOk w e w' (findI r) (findB r) :=
  (prefix_any n s w hL).mono fun e w' h' => by rw [h] at h'; exact h'
theorem some_or {α : Type} (r : Option α) : r = none ∨ ∃ i, r = some i := by cases r <;> simp
set_option maxHeartbeats 1000000 in
theorem back_any (n at_ : Int) (s : ByteArray) (hs : s.size ≤ maxLen) (w : World) (hL : Laid w) : Calls Tryd.prog 4 #[.int .i64 n, .int .i64 at_, .string s] w fun e w' => e = .returned (.bool true) ∧ Below w.heap.size w w' := by
  have HL := Lib.hid hL
  clear hL
  unfold maxLen at hs
  have hA := Lib.hid (findA_told (1 + n % 5) (at_ % 48) (by omega) (by omega) (by omega) (by omega))
  have hP := Lib.hid (findP_told (1 + n % 5) (at_ % 20) (by omega) (by omega) (by omega) (by omega))
  have hk1 : 1 ≤ 1 + n % 5 := by omega
  have i1 : Hid (findI (some (at_ % 48).toNat) = at_ % 48) := by show ((at_ % 48).toNat : Int) = _; omega
  have i2 : Hid (findI (some (at_ % 20).toNat) = at_ % 20) := by show ((at_ % 20).toNat : Int) = _; omega
  by_cases hc : codeOf (1 + n % 5) (at_ % 48) = []
  · by_cases hd : preOf (1 + n % 5) (at_ % 20) = []
    · have hc1 : (codeOf (1 + n % 5) (at_ % 48)).isEmpty = true := by rw [hc]; rfl
      have hd1 : (preOf (1 + n % 5) (at_ % 20)).isEmpty = true := by rw [hd]; rfl
      have q1 := Lib.hid (hA.out.trans (if_pos hc))
      have q2 := Lib.hid (hP.out.trans (if_pos hd))
      clear hc hd
      go_enter Tryd.func4, Tryd.ntmps4
      go_wp2_with fail
      refine (awake_any _ HL.out).mono ?_
      rintro e w1 ⟨rfl, hb1⟩
      go_wp2_with fail
      all_goals
        refine (rest_any _ _ _ (by omega) (by omega)).mono ?_
        rintro e wx ⟨rfl, rfl⟩
        go_wp2_with fail
        refine (rest_any _ _ _ (by omega) (by omega)).mono ?_
        rintro e wx ⟨rfl, rfl⟩
        go_wp2_with fail
        refine (code_any _ _ _ (HL.out.below hb1)).mono ?_
        rintro e w2 ⟨rfl, hb2⟩
        go_wp2_with fail
        refine (atom_r ((HL.out.below hb1).below hb2) ((congrArg _ (toListMk _)).trans q1.out)).mono ?_
        rintro e w3 ⟨he, hb3⟩
        obtain rfl : e = .returned (.tuple #[.int .i64 (-1), .bool false]) := he
        go_wp2_with fail
        refine (rest_any _ _ _ (by omega) (by omega)).mono ?_
        rintro e wx ⟨rfl, rfl⟩
        go_wp2_with fail
        refine (preCode_any _ _ _ (((HL.out.below hb1).below hb2).below hb3)).mono ?_
        rintro e w4 ⟨rfl, hb4⟩
        go_wp2_with fail
        refine (prefix_r ((((HL.out.below hb1).below hb2).below hb3).below hb4) ((congrArg _ (toListMk _)).trans q2.out)).mono ?_
        rintro e w5 ⟨he, hb5⟩
        obtain rfl : e = .returned (.tuple #[.int .i64 (-1), .bool false]) := he
        go_wp2_with fail
        have HB := Lib.hid ((((hb1.trans (hb2.mono hb1.size)).trans (hb3.mono (hb1.trans (hb2.mono hb1.size)).size)).trans (hb4.mono ((hb1.trans (hb2.mono hb1.size)).trans (hb3.mono (hb1.trans (hb2.mono hb1.size)).size)).size)).trans (hb5.mono (((hb1.trans (hb2.mono hb1.size)).trans (hb3.mono (hb1.trans (hb2.mono hb1.size)).size)).trans (hb4.mono ((hb1.trans (hb2.mono hb1.size)).trans (hb3.mono (hb1.trans (hb2.mono hb1.size)).size)).size)).size))
        have HL5 := Lib.hid (HL.out.below HB.out)
        clear hb1 hb2 hb3 hb4 hb5
        refine (atom_r HL5.out rfl).mono ?_
        rintro e w6 ⟨he, hb6⟩
        generalize hr : findA _ _ = r3 at he
        have HR := Lib.hid hr
        clear hr
        rcases some_or r3 with rfl | ⟨b3, rfl⟩
        · obtain rfl : e = .returned (.tuple #[.int .i64 (-1), .bool false]) := he
          go_wp2_with fail
          refine (prefix_r (HL5.out.below hb6) rfl).mono ?_
          rintro e w7 ⟨he, hb7⟩
          generalize hr2 : findP _ _ = r4 at he
          have HR2 := Lib.hid hr2
          clear hr2
          rcases some_or r4 with rfl | ⟨b4, rfl⟩
          · obtain rfl : e = .returned (.tuple #[.int .i64 (-1), .bool false]) := he
            go_wp2_with fail
            go_ret
            exact ⟨rfl, (HB.out.trans (hb6.mono HB.out.size)).trans (hb7.mono (HB.out.trans (hb6.mono HB.out.size)).size)⟩
          · obtain rfl : e = .returned (.tuple #[.int .i64 (b4), .bool true]) := he
            go_wp2_with fail
            have hq4 := beq_iff_eq.2 (told_findP _ _ _ HR2.out)
            refine (preCode_any _ _ _ ((HL5.out.below hb6).below hb7)).mono ?_
            rintro e w9 ⟨rfl, hb9⟩
            go_wp2_with fail
            go_ret
            exact ⟨rfl, ((HB.out.trans (hb6.mono HB.out.size)).trans (hb7.mono (HB.out.trans (hb6.mono HB.out.size)).size)).trans (hb9.mono ((HB.out.trans (hb6.mono HB.out.size)).trans (hb7.mono (HB.out.trans (hb6.mono HB.out.size)).size)).size)⟩
        · obtain rfl : e = .returned (.tuple #[.int .i64 b3, .bool true]) := he
          go_wp2_with fail
          refine (prefix_r (HL5.out.below hb6) rfl).mono ?_
          rintro e w7 ⟨he, hb7⟩
          generalize hr2 : findP _ _ = r4 at he
          have HR2 := Lib.hid hr2
          clear hr2
          rcases some_or r4 with rfl | ⟨b4, rfl⟩
          · obtain rfl : e = .returned (.tuple #[.int .i64 (-1), .bool false]) := he
            go_wp2_with fail
            have hq3 := beq_iff_eq.2 (told_findA _ _ _ HR.out)
            refine (code_any _ _ _ ((HL5.out.below hb6).below hb7)).mono ?_
            rintro e w8 ⟨rfl, hb8⟩
            go_wp2_with fail
            go_ret
            exact ⟨rfl, ((HB.out.trans (hb6.mono HB.out.size)).trans (hb7.mono (HB.out.trans (hb6.mono HB.out.size)).size)).trans (hb8.mono ((HB.out.trans (hb6.mono HB.out.size)).trans (hb7.mono (HB.out.trans (hb6.mono HB.out.size)).size)).size)⟩
          · obtain rfl : e = .returned (.tuple #[.int .i64 (b4), .bool true]) := he
            go_wp2_with fail
            have hq3 := beq_iff_eq.2 (told_findA _ _ _ HR.out)
            refine (code_any _ _ _ ((HL5.out.below hb6).below hb7)).mono ?_
            rintro e w8 ⟨rfl, hb8⟩
            go_wp2_with fail
            have hq4 := beq_iff_eq.2 (told_findP _ _ _ HR2.out)
            refine (preCode_any _ _ _ (((HL5.out.below hb6).below hb7).below hb8)).mono ?_
            rintro e w9 ⟨rfl, hb9⟩
            go_wp2_with fail
            go_ret
            exact ⟨rfl, (((HB.out.trans (hb6.mono HB.out.size)).trans (hb7.mono (HB.out.trans (hb6.mono HB.out.size)).size)).trans (hb8.mono ((HB.out.trans (hb6.mono HB.out.size)).trans (hb7.mono (HB.out.trans (hb6.mono HB.out.size)).size)).size)).trans (hb9.mono (((HB.out.trans (hb6.mono HB.out.size)).trans (hb7.mono (HB.out.trans (hb6.mono HB.out.size)).size)).trans (hb8.mono ((HB.out.trans (hb6.mono HB.out.size)).trans (hb7.mono (HB.out.trans (hb6.mono HB.out.size)).size)).size)).size)⟩
    · have hc1 : (codeOf (1 + n % 5) (at_ % 48)).isEmpty = true := by rw [hc]; rfl
      have hd1 : (preOf (1 + n % 5) (at_ % 20)).isEmpty = false := by simpa using hd
      have q1 := Lib.hid (hA.out.trans (if_pos hc))
      have q2 := Lib.hid (hP.out.trans (if_neg hd))
      clear hc hd
      go_enter Tryd.func4, Tryd.ntmps4
      go_wp2_with fail
      refine (awake_any _ HL.out).mono ?_
      rintro e w1 ⟨rfl, hb1⟩
      go_wp2_with fail
      all_goals
        refine (rest_any _ _ _ (by omega) (by omega)).mono ?_
        rintro e wx ⟨rfl, rfl⟩
        go_wp2_with fail
        refine (rest_any _ _ _ (by omega) (by omega)).mono ?_
        rintro e wx ⟨rfl, rfl⟩
        go_wp2_with fail
        refine (code_any _ _ _ (HL.out.below hb1)).mono ?_
        rintro e w2 ⟨rfl, hb2⟩
        go_wp2_with fail
        refine (atom_r ((HL.out.below hb1).below hb2) ((congrArg _ (toListMk _)).trans q1.out)).mono ?_
        rintro e w3 ⟨he, hb3⟩
        obtain rfl : e = .returned (.tuple #[.int .i64 (-1), .bool false]) := he
        go_wp2_with fail
        refine (rest_any _ _ _ (by omega) (by omega)).mono ?_
        rintro e wx ⟨rfl, rfl⟩
        go_wp2_with fail
        refine (preCode_any _ _ _ (((HL.out.below hb1).below hb2).below hb3)).mono ?_
        rintro e w4 ⟨rfl, hb4⟩
        go_wp2_with fail
        refine (prefix_r ((((HL.out.below hb1).below hb2).below hb3).below hb4) ((congrArg _ (toListMk _)).trans q2.out)).mono ?_
        rintro e w5 ⟨he, hb5⟩
        rw [i2.out] at he
        obtain rfl : e = .returned (.tuple #[.int .i64 (at_ % 20), .bool true]) := he
        go_wp2_with fail
        refine (rest_any _ _ _ (by omega) (by omega)).mono ?_
        rintro e wx ⟨rfl, rfl⟩
        go_wp2_with fail
        have HB := Lib.hid ((((hb1.trans (hb2.mono hb1.size)).trans (hb3.mono (hb1.trans (hb2.mono hb1.size)).size)).trans (hb4.mono ((hb1.trans (hb2.mono hb1.size)).trans (hb3.mono (hb1.trans (hb2.mono hb1.size)).size)).size)).trans (hb5.mono (((hb1.trans (hb2.mono hb1.size)).trans (hb3.mono (hb1.trans (hb2.mono hb1.size)).size)).trans (hb4.mono ((hb1.trans (hb2.mono hb1.size)).trans (hb3.mono (hb1.trans (hb2.mono hb1.size)).size)).size)).size))
        have HL5 := Lib.hid (HL.out.below HB.out)
        clear hb1 hb2 hb3 hb4 hb5
        refine (atom_r HL5.out rfl).mono ?_
        rintro e w6 ⟨he, hb6⟩
        generalize hr : findA _ _ = r3 at he
        have HR := Lib.hid hr
        clear hr
        rcases some_or r3 with rfl | ⟨b3, rfl⟩
        · obtain rfl : e = .returned (.tuple #[.int .i64 (-1), .bool false]) := he
          go_wp2_with fail
          refine (prefix_r (HL5.out.below hb6) rfl).mono ?_
          rintro e w7 ⟨he, hb7⟩
          generalize hr2 : findP _ _ = r4 at he
          have HR2 := Lib.hid hr2
          clear hr2
          rcases some_or r4 with rfl | ⟨b4, rfl⟩
          · obtain rfl : e = .returned (.tuple #[.int .i64 (-1), .bool false]) := he
            go_wp2_with fail
            go_ret
            exact ⟨rfl, (HB.out.trans (hb6.mono HB.out.size)).trans (hb7.mono (HB.out.trans (hb6.mono HB.out.size)).size)⟩
          · obtain rfl : e = .returned (.tuple #[.int .i64 (b4), .bool true]) := he
            go_wp2_with fail
            have hq4 := beq_iff_eq.2 (told_findP _ _ _ HR2.out)
            refine (preCode_any _ _ _ ((HL5.out.below hb6).below hb7)).mono ?_
            rintro e w9 ⟨rfl, hb9⟩
            go_wp2_with fail
            go_ret
            exact ⟨rfl, ((HB.out.trans (hb6.mono HB.out.size)).trans (hb7.mono (HB.out.trans (hb6.mono HB.out.size)).size)).trans (hb9.mono ((HB.out.trans (hb6.mono HB.out.size)).trans (hb7.mono (HB.out.trans (hb6.mono HB.out.size)).size)).size)⟩
        · obtain rfl : e = .returned (.tuple #[.int .i64 b3, .bool true]) := he
          go_wp2_with fail
          refine (prefix_r (HL5.out.below hb6) rfl).mono ?_
          rintro e w7 ⟨he, hb7⟩
          generalize hr2 : findP _ _ = r4 at he
          have HR2 := Lib.hid hr2
          clear hr2
          rcases some_or r4 with rfl | ⟨b4, rfl⟩
          · obtain rfl : e = .returned (.tuple #[.int .i64 (-1), .bool false]) := he
            go_wp2_with fail
            have hq3 := beq_iff_eq.2 (told_findA _ _ _ HR.out)
            refine (code_any _ _ _ ((HL5.out.below hb6).below hb7)).mono ?_
            rintro e w8 ⟨rfl, hb8⟩
            go_wp2_with fail
            go_ret
            exact ⟨rfl, ((HB.out.trans (hb6.mono HB.out.size)).trans (hb7.mono (HB.out.trans (hb6.mono HB.out.size)).size)).trans (hb8.mono ((HB.out.trans (hb6.mono HB.out.size)).trans (hb7.mono (HB.out.trans (hb6.mono HB.out.size)).size)).size)⟩
          · obtain rfl : e = .returned (.tuple #[.int .i64 (b4), .bool true]) := he
            go_wp2_with fail
            have hq3 := beq_iff_eq.2 (told_findA _ _ _ HR.out)
            refine (code_any _ _ _ ((HL5.out.below hb6).below hb7)).mono ?_
            rintro e w8 ⟨rfl, hb8⟩
            go_wp2_with fail
            have hq4 := beq_iff_eq.2 (told_findP _ _ _ HR2.out)
            refine (preCode_any _ _ _ (((HL5.out.below hb6).below hb7).below hb8)).mono ?_
            rintro e w9 ⟨rfl, hb9⟩
            go_wp2_with fail
            go_ret
            exact ⟨rfl, (((HB.out.trans (hb6.mono HB.out.size)).trans (hb7.mono (HB.out.trans (hb6.mono HB.out.size)).size)).trans (hb8.mono ((HB.out.trans (hb6.mono HB.out.size)).trans (hb7.mono (HB.out.trans (hb6.mono HB.out.size)).size)).size)).trans (hb9.mono (((HB.out.trans (hb6.mono HB.out.size)).trans (hb7.mono (HB.out.trans (hb6.mono HB.out.size)).size)).trans (hb8.mono ((HB.out.trans (hb6.mono HB.out.size)).trans (hb7.mono (HB.out.trans (hb6.mono HB.out.size)).size)).size)).size)⟩
  · by_cases hd : preOf (1 + n % 5) (at_ % 20) = []
    · have hc1 : (codeOf (1 + n % 5) (at_ % 48)).isEmpty = false := by simpa using hc
      have hd1 : (preOf (1 + n % 5) (at_ % 20)).isEmpty = true := by rw [hd]; rfl
      have q1 := Lib.hid (hA.out.trans (if_neg hc))
      have q2 := Lib.hid (hP.out.trans (if_pos hd))
      clear hc hd
      go_enter Tryd.func4, Tryd.ntmps4
      go_wp2_with fail
      refine (awake_any _ HL.out).mono ?_
      rintro e w1 ⟨rfl, hb1⟩
      go_wp2_with fail
      all_goals
        refine (rest_any _ _ _ (by omega) (by omega)).mono ?_
        rintro e wx ⟨rfl, rfl⟩
        go_wp2_with fail
        refine (rest_any _ _ _ (by omega) (by omega)).mono ?_
        rintro e wx ⟨rfl, rfl⟩
        go_wp2_with fail
        refine (code_any _ _ _ (HL.out.below hb1)).mono ?_
        rintro e w2 ⟨rfl, hb2⟩
        go_wp2_with fail
        refine (atom_r ((HL.out.below hb1).below hb2) ((congrArg _ (toListMk _)).trans q1.out)).mono ?_
        rintro e w3 ⟨he, hb3⟩
        rw [i1.out] at he
        obtain rfl : e = .returned (.tuple #[.int .i64 (at_ % 48), .bool true]) := he
        go_wp2_with fail
        refine (rest_any _ _ _ (by omega) (by omega)).mono ?_
        rintro e wx ⟨rfl, rfl⟩
        go_wp2_with fail
        refine (preCode_any _ _ _ (((HL.out.below hb1).below hb2).below hb3)).mono ?_
        rintro e w4 ⟨rfl, hb4⟩
        go_wp2_with fail
        refine (prefix_r ((((HL.out.below hb1).below hb2).below hb3).below hb4) ((congrArg _ (toListMk _)).trans q2.out)).mono ?_
        rintro e w5 ⟨he, hb5⟩
        obtain rfl : e = .returned (.tuple #[.int .i64 (-1), .bool false]) := he
        go_wp2_with fail
        refine (rest_any _ _ _ (by omega) (by omega)).mono ?_
        rintro e wx ⟨rfl, rfl⟩
        go_wp2_with fail
        have HB := Lib.hid ((((hb1.trans (hb2.mono hb1.size)).trans (hb3.mono (hb1.trans (hb2.mono hb1.size)).size)).trans (hb4.mono ((hb1.trans (hb2.mono hb1.size)).trans (hb3.mono (hb1.trans (hb2.mono hb1.size)).size)).size)).trans (hb5.mono (((hb1.trans (hb2.mono hb1.size)).trans (hb3.mono (hb1.trans (hb2.mono hb1.size)).size)).trans (hb4.mono ((hb1.trans (hb2.mono hb1.size)).trans (hb3.mono (hb1.trans (hb2.mono hb1.size)).size)).size)).size))
        have HL5 := Lib.hid (HL.out.below HB.out)
        clear hb1 hb2 hb3 hb4 hb5
        refine (atom_r HL5.out rfl).mono ?_
        rintro e w6 ⟨he, hb6⟩
        generalize hr : findA _ _ = r3 at he
        have HR := Lib.hid hr
        clear hr
        rcases some_or r3 with rfl | ⟨b3, rfl⟩
        · obtain rfl : e = .returned (.tuple #[.int .i64 (-1), .bool false]) := he
          go_wp2_with fail
          refine (prefix_r (HL5.out.below hb6) rfl).mono ?_
          rintro e w7 ⟨he, hb7⟩
          generalize hr2 : findP _ _ = r4 at he
          have HR2 := Lib.hid hr2
          clear hr2
          rcases some_or r4 with rfl | ⟨b4, rfl⟩
          · obtain rfl : e = .returned (.tuple #[.int .i64 (-1), .bool false]) := he
            go_wp2_with fail
            go_ret
            exact ⟨rfl, (HB.out.trans (hb6.mono HB.out.size)).trans (hb7.mono (HB.out.trans (hb6.mono HB.out.size)).size)⟩
          · obtain rfl : e = .returned (.tuple #[.int .i64 (b4), .bool true]) := he
            go_wp2_with fail
            have hq4 := beq_iff_eq.2 (told_findP _ _ _ HR2.out)
            refine (preCode_any _ _ _ ((HL5.out.below hb6).below hb7)).mono ?_
            rintro e w9 ⟨rfl, hb9⟩
            go_wp2_with fail
            go_ret
            exact ⟨rfl, ((HB.out.trans (hb6.mono HB.out.size)).trans (hb7.mono (HB.out.trans (hb6.mono HB.out.size)).size)).trans (hb9.mono ((HB.out.trans (hb6.mono HB.out.size)).trans (hb7.mono (HB.out.trans (hb6.mono HB.out.size)).size)).size)⟩
        · obtain rfl : e = .returned (.tuple #[.int .i64 b3, .bool true]) := he
          go_wp2_with fail
          refine (prefix_r (HL5.out.below hb6) rfl).mono ?_
          rintro e w7 ⟨he, hb7⟩
          generalize hr2 : findP _ _ = r4 at he
          have HR2 := Lib.hid hr2
          clear hr2
          rcases some_or r4 with rfl | ⟨b4, rfl⟩
          · obtain rfl : e = .returned (.tuple #[.int .i64 (-1), .bool false]) := he
            go_wp2_with fail
            have hq3 := beq_iff_eq.2 (told_findA _ _ _ HR.out)
            refine (code_any _ _ _ ((HL5.out.below hb6).below hb7)).mono ?_
            rintro e w8 ⟨rfl, hb8⟩
            go_wp2_with fail
            go_ret
            exact ⟨rfl, ((HB.out.trans (hb6.mono HB.out.size)).trans (hb7.mono (HB.out.trans (hb6.mono HB.out.size)).size)).trans (hb8.mono ((HB.out.trans (hb6.mono HB.out.size)).trans (hb7.mono (HB.out.trans (hb6.mono HB.out.size)).size)).size)⟩
          · obtain rfl : e = .returned (.tuple #[.int .i64 (b4), .bool true]) := he
            go_wp2_with fail
            have hq3 := beq_iff_eq.2 (told_findA _ _ _ HR.out)
            refine (code_any _ _ _ ((HL5.out.below hb6).below hb7)).mono ?_
            rintro e w8 ⟨rfl, hb8⟩
            go_wp2_with fail
            have hq4 := beq_iff_eq.2 (told_findP _ _ _ HR2.out)
            refine (preCode_any _ _ _ (((HL5.out.below hb6).below hb7).below hb8)).mono ?_
            rintro e w9 ⟨rfl, hb9⟩
            go_wp2_with fail
            go_ret
            exact ⟨rfl, (((HB.out.trans (hb6.mono HB.out.size)).trans (hb7.mono (HB.out.trans (hb6.mono HB.out.size)).size)).trans (hb8.mono ((HB.out.trans (hb6.mono HB.out.size)).trans (hb7.mono (HB.out.trans (hb6.mono HB.out.size)).size)).size)).trans (hb9.mono (((HB.out.trans (hb6.mono HB.out.size)).trans (hb7.mono (HB.out.trans (hb6.mono HB.out.size)).size)).trans (hb8.mono ((HB.out.trans (hb6.mono HB.out.size)).trans (hb7.mono (HB.out.trans (hb6.mono HB.out.size)).size)).size)).size)⟩
    · have hc1 : (codeOf (1 + n % 5) (at_ % 48)).isEmpty = false := by simpa using hc
      have hd1 : (preOf (1 + n % 5) (at_ % 20)).isEmpty = false := by simpa using hd
      have q1 := Lib.hid (hA.out.trans (if_neg hc))
      have q2 := Lib.hid (hP.out.trans (if_neg hd))
      clear hc hd
      go_enter Tryd.func4, Tryd.ntmps4
      go_wp2_with fail
      refine (awake_any _ HL.out).mono ?_
      rintro e w1 ⟨rfl, hb1⟩
      go_wp2_with fail
      all_goals
        refine (rest_any _ _ _ (by omega) (by omega)).mono ?_
        rintro e wx ⟨rfl, rfl⟩
        go_wp2_with fail
        refine (rest_any _ _ _ (by omega) (by omega)).mono ?_
        rintro e wx ⟨rfl, rfl⟩
        go_wp2_with fail
        refine (code_any _ _ _ (HL.out.below hb1)).mono ?_
        rintro e w2 ⟨rfl, hb2⟩
        go_wp2_with fail
        refine (atom_r ((HL.out.below hb1).below hb2) ((congrArg _ (toListMk _)).trans q1.out)).mono ?_
        rintro e w3 ⟨he, hb3⟩
        rw [i1.out] at he
        obtain rfl : e = .returned (.tuple #[.int .i64 (at_ % 48), .bool true]) := he
        go_wp2_with fail
        refine (rest_any _ _ _ (by omega) (by omega)).mono ?_
        rintro e wx ⟨rfl, rfl⟩
        go_wp2_with fail
        refine (preCode_any _ _ _ (((HL.out.below hb1).below hb2).below hb3)).mono ?_
        rintro e w4 ⟨rfl, hb4⟩
        go_wp2_with fail
        refine (prefix_r ((((HL.out.below hb1).below hb2).below hb3).below hb4) ((congrArg _ (toListMk _)).trans q2.out)).mono ?_
        rintro e w5 ⟨he, hb5⟩
        rw [i2.out] at he
        obtain rfl : e = .returned (.tuple #[.int .i64 (at_ % 20), .bool true]) := he
        go_wp2_with fail
        refine (rest_any _ _ _ (by omega) (by omega)).mono ?_
        rintro e wx ⟨rfl, rfl⟩
        go_wp2_with fail
        refine (rest_any _ _ _ (by omega) (by omega)).mono ?_
        rintro e wx ⟨rfl, rfl⟩
        go_wp2_with fail
        have HB := Lib.hid ((((hb1.trans (hb2.mono hb1.size)).trans (hb3.mono (hb1.trans (hb2.mono hb1.size)).size)).trans (hb4.mono ((hb1.trans (hb2.mono hb1.size)).trans (hb3.mono (hb1.trans (hb2.mono hb1.size)).size)).size)).trans (hb5.mono (((hb1.trans (hb2.mono hb1.size)).trans (hb3.mono (hb1.trans (hb2.mono hb1.size)).size)).trans (hb4.mono ((hb1.trans (hb2.mono hb1.size)).trans (hb3.mono (hb1.trans (hb2.mono hb1.size)).size)).size)).size))
        have HL5 := Lib.hid (HL.out.below HB.out)
        clear hb1 hb2 hb3 hb4 hb5
        refine (atom_r HL5.out rfl).mono ?_
        rintro e w6 ⟨he, hb6⟩
        generalize hr : findA _ _ = r3 at he
        have HR := Lib.hid hr
        clear hr
        rcases some_or r3 with rfl | ⟨b3, rfl⟩
        · obtain rfl : e = .returned (.tuple #[.int .i64 (-1), .bool false]) := he
          go_wp2_with fail
          refine (prefix_r (HL5.out.below hb6) rfl).mono ?_
          rintro e w7 ⟨he, hb7⟩
          generalize hr2 : findP _ _ = r4 at he
          have HR2 := Lib.hid hr2
          clear hr2
          rcases some_or r4 with rfl | ⟨b4, rfl⟩
          · obtain rfl : e = .returned (.tuple #[.int .i64 (-1), .bool false]) := he
            go_wp2_with fail
            go_ret
            exact ⟨rfl, (HB.out.trans (hb6.mono HB.out.size)).trans (hb7.mono (HB.out.trans (hb6.mono HB.out.size)).size)⟩
          · obtain rfl : e = .returned (.tuple #[.int .i64 (b4), .bool true]) := he
            go_wp2_with fail
            have hq4 := beq_iff_eq.2 (told_findP _ _ _ HR2.out)
            refine (preCode_any _ _ _ ((HL5.out.below hb6).below hb7)).mono ?_
            rintro e w9 ⟨rfl, hb9⟩
            go_wp2_with fail
            go_ret
            exact ⟨rfl, ((HB.out.trans (hb6.mono HB.out.size)).trans (hb7.mono (HB.out.trans (hb6.mono HB.out.size)).size)).trans (hb9.mono ((HB.out.trans (hb6.mono HB.out.size)).trans (hb7.mono (HB.out.trans (hb6.mono HB.out.size)).size)).size)⟩
        · obtain rfl : e = .returned (.tuple #[.int .i64 b3, .bool true]) := he
          go_wp2_with fail
          refine (prefix_r (HL5.out.below hb6) rfl).mono ?_
          rintro e w7 ⟨he, hb7⟩
          generalize hr2 : findP _ _ = r4 at he
          have HR2 := Lib.hid hr2
          clear hr2
          rcases some_or r4 with rfl | ⟨b4, rfl⟩
          · obtain rfl : e = .returned (.tuple #[.int .i64 (-1), .bool false]) := he
            go_wp2_with fail
            have hq3 := beq_iff_eq.2 (told_findA _ _ _ HR.out)
            refine (code_any _ _ _ ((HL5.out.below hb6).below hb7)).mono ?_
            rintro e w8 ⟨rfl, hb8⟩
            go_wp2_with fail
            go_ret
            exact ⟨rfl, ((HB.out.trans (hb6.mono HB.out.size)).trans (hb7.mono (HB.out.trans (hb6.mono HB.out.size)).size)).trans (hb8.mono ((HB.out.trans (hb6.mono HB.out.size)).trans (hb7.mono (HB.out.trans (hb6.mono HB.out.size)).size)).size)⟩
          · obtain rfl : e = .returned (.tuple #[.int .i64 (b4), .bool true]) := he
            go_wp2_with fail
            have hq3 := beq_iff_eq.2 (told_findA _ _ _ HR.out)
            refine (code_any _ _ _ ((HL5.out.below hb6).below hb7)).mono ?_
            rintro e w8 ⟨rfl, hb8⟩
            go_wp2_with fail
            have hq4 := beq_iff_eq.2 (told_findP _ _ _ HR2.out)
            refine (preCode_any _ _ _ (((HL5.out.below hb6).below hb7).below hb8)).mono ?_
            rintro e w9 ⟨rfl, hb9⟩
            go_wp2_with fail
            go_ret
            exact ⟨rfl, (((HB.out.trans (hb6.mono HB.out.size)).trans (hb7.mono (HB.out.trans (hb6.mono HB.out.size)).size)).trans (hb8.mono ((HB.out.trans (hb6.mono HB.out.size)).trans (hb7.mono (HB.out.trans (hb6.mono HB.out.size)).size)).size)).trans (hb9.mono (((HB.out.trans (hb6.mono HB.out.size)).trans (hb7.mono (HB.out.trans (hb6.mono HB.out.size)).size)).trans (hb8.mono ((HB.out.trans (hb6.mono HB.out.size)).trans (hb7.mono (HB.out.trans (hb6.mono HB.out.size)).size)).size)).size)⟩
end Go.Proofs.YtiakjbocnfkmnaaDoor
