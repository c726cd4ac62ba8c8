/-
  The reference's Code, PrefixCode, Atom, Prefix: the contracts.
-/
import Derived.Test.YtiakjbocnfkmnaaDoorRt2
set_option linter.unusedVariables false
set_option linter.unusedSimpArgs false
namespace Go.Proofs.YtiakjbocnfkmnaaDoor
open Go.RowKit
open Go.Proofs

theorem atom_cell {w : World} {B g cap : Nat} {ss : Nat → Value} (h : w.ownsRow B 38 12 (.slice (some ⟨g, 0, none⟩) 48 cap) 48 (atomsV 48 ss)) (i j : Nat) (hi : i < 48) (hj : j < 5) :
    w.cell? ⟨g, i * 12 + j, none⟩ = some (.string ⟨(codeAt i j).toArray⟩) := by
  refine atom_range h i hi j _ ?_
  have : j = 0 ∨ j = 1 ∨ j = 2 ∨ j = 3 ∨ j = 4 := by omega
  rcases this with rfl | rfl | rfl | rfl | rfl <;> rfl
theorem pre_cell {w : World} {B g cap : Nat} (h : w.ownsRow B 40 6 (.slice (some ⟨g, 0, none⟩) 20 cap) 20 (presV tabPres)) (i j : Nat) (hi : i < 20) (hj : j < 5) :
    w.cell? ⟨g, i * 6 + j, none⟩ = some (.string ⟨(preCodeAt i j).toArray⟩) := by
  refine pre_range h i hi j _ ?_
  have : j = 0 ∨ j = 1 ∨ j = 2 ∨ j = 3 ∨ j = 4 := by omega
  rcases this with rfl | rfl | rfl | rfl | rfl <;> rfl
def IntOk (w : World) (e : Ending) (w' : World) (i : Int) : Prop := e = .returned (.int .i64 i) ∧ Below w.heap.size w w'
theorem IntOk.mk' {w : World} {v : Value} {w' : World} {i : Int} (h : v = .int .i64 i) (hb : Below w.heap.size w w') : IntOk w (.returned v) w' i := ⟨by rw [h], hb⟩

set_option maxHeartbeats 1000000 in
theorem refCode_any (n i : Int) (w : World) : Calls Tryd.prog 10 #[.int .i64 n, .int .i64 i] w fun e w' => StrOk w e w' (codeOf n i) := by
  by_cases hc : 1 ≤ n ∧ n ≤ 5 ∧ 0 ≤ i ∧ i < 48
  · have hval : Hid (codeOf n i = codeAt i.toNat (n.toNat - 1)) := if_pos hc
    obtain ⟨h1, h2, h3, h4⟩ := hc
    have hd1 : decide (i < 0) = false := by simp; omega
    have hd2 : decide (48 ≤ i) = false := by simp; omega
    have hd3 : decide (5 < n) = false := by simp; omega
    go_enter Tryd.func10, Tryd.ntmps10
    go_wp2_with fail
    refine (refTable_ok _).mono ?_
    intro e w1 hT
    obtain ⟨a1, c1, a2, c2, ss, rfl, hT, hb⟩ := hT
    obtain ⟨g, cap, hg⟩ := form_of hT.atoms (by omega)
    cases hg
    have hcell : ∀ o, (w1.alloc o).cell? ⟨g, i.toNat * 12 + (n.toNat - 1), none⟩ = some (.string ⟨(codeAt i.toNat (n.toNat - 1)).toArray⟩) := fun o => cellAlloc o (atom_cell hT.atoms _ _ (by omega) (by omega))
    have HB := Lib.hid hb
    clear hT hb
    go_wp2_with fail
    go_ret
    exact StrOk.mk' (by rw [hval.out]; rfl) (HB.out.alloc HB.out.size _)
  · have hval : Hid (codeOf n i = []) := if_neg hc
    have hcases : n < 1 ∨ (1 ≤ n ∧ 5 < n) ∨ (1 ≤ n ∧ n ≤ 5 ∧ i < 0) ∨ (1 ≤ n ∧ n ≤ 5 ∧ 0 ≤ i ∧ 48 ≤ i) := by omega
    rcases hcases with h1 | ⟨h1, h2⟩ | ⟨h1, h2, h3⟩ | ⟨h1, h2, h3, h4⟩
    · have hd1 : decide (n < 1) = true := by simpa using h1
      go_enter Tryd.func10, Tryd.ntmps10
      go_wp2_with fail
      refine (refTable_ok _).mono ?_
      intro e w1 hT
      obtain ⟨a1, c1, a2, c2, ss, rfl, hT, hb⟩ := hT
      have HB := Lib.hid hb
      clear hT hb
      go_wp2_with fail
      go_ret
      exact StrOk.mk' (by rw [hval.out]; rfl) (HB.out.alloc HB.out.size _)
    · have hd1 : decide (n < 1) = false := by simp; omega
      have hd3 : decide (5 < n) = true := by simpa using h2
      go_enter Tryd.func10, Tryd.ntmps10
      go_wp2_with fail
      refine (refTable_ok _).mono ?_
      intro e w1 hT
      obtain ⟨a1, c1, a2, c2, ss, rfl, hT, hb⟩ := hT
      have HB := Lib.hid hb
      clear hT hb
      go_wp2_with fail
      go_ret
      exact StrOk.mk' (by rw [hval.out]; rfl) (HB.out.alloc HB.out.size _)
    · have hd1 : decide (n < 1) = false := by simp; omega
      have hd3 : decide (5 < n) = false := by simp; omega
      have hd2 : decide (i < 0) = true := by simpa using h3
      go_enter Tryd.func10, Tryd.ntmps10
      go_wp2_with fail
      refine (refTable_ok _).mono ?_
      intro e w1 hT
      obtain ⟨a1, c1, a2, c2, ss, rfl, hT, hb⟩ := hT
      have HB := Lib.hid hb
      clear hT hb
      go_wp2_with fail
      go_ret
      exact StrOk.mk' (by rw [hval.out]; rfl) (HB.out.alloc HB.out.size _)
    · have hd1 : decide (n < 1) = false := by simp; omega
      have hd3 : decide (5 < n) = false := by simp; omega
      have hd2 : decide (i < 0) = false := by simp; omega
      have hd4 : decide (48 ≤ i) = true := by simpa using h4
      go_enter Tryd.func10, Tryd.ntmps10
      go_wp2_with fail
      refine (refTable_ok _).mono ?_
      intro e w1 hT
      obtain ⟨a1, c1, a2, c2, ss, rfl, hT, hb⟩ := hT
      have HB := Lib.hid hb
      clear hT hb
      go_wp2_with fail
      go_ret
      exact StrOk.mk' (by rw [hval.out]; rfl) (HB.out.alloc HB.out.size _)
set_option maxHeartbeats 1000000 in
theorem refAtom_yes (n : Int) (s : ByteArray) (w : World) (h1 : 1 ≤ n) (h2 : n ≤ 5) (hs : s.toList.isEmpty = false) : Calls Tryd.prog 17 #[.int .i64 n, .string s] w fun e w' => IntOk w e w' (findI (findA n s.toList)) := by
  have hd3 : decide (n ≤ 5) = true := by simpa using h2
  go_enter Tryd.func17, Tryd.ntmps17
  go_wp2_with fail
  refine (refTable_ok _).mono ?_
  intro e w1 hT
  obtain ⟨a1, c1, a2, c2, ss, rfl, hT, hb⟩ := hT
  obtain ⟨g, cap, hg⟩ := form_of hT.atoms (by omega)
  cases hg
  have HA := Lib.hid hT.atoms
  have HB := Lib.hid hb
  clear hT hb
  go_wp2_with fail
  go_loop [6] (fun i => ∃ k : Nat, k ≤ 48 ∧ i = .int .i64 k ∧ (∀ j, j < k → (codeAt j (n.toNat - 1) == s.toList) = false)) (fun i => 48 - (intOf i).toNat)
  case atStart => exact ⟨0, by omega, rfl, fun j hj => by omega⟩
  case round =>
    obtain ⟨k, hk, rfl, hno⟩ := hrel
    have HN := Lib.hid hno
    clear hno
    by_cases hlt : k < 48
    · have hcell : ∀ o, (w1.alloc o).cell? ⟨g, k * 12 + (n.toNat - 1), none⟩ = some (.string ⟨(codeAt k (n.toNat - 1)).toArray⟩) := fun o => cellAlloc o (atom_cell HA.out _ _ (by omega) (by omega))
      have hk48 : (k : Int) < 48 := by omega
      go_wp2_with fail
      · have hm : (codeAt k (n.toNat - 1) == s.toList) = true := by assumption
        go_ret
        exact IntOk.mk' (by rw [findA_some h1 h2 hs hlt hm HN.out]; rfl) (HB.out.alloc HB.out.size _)
      · have hm : (codeAt k (n.toNat - 1) == s.toList) = false := by assumption
        go_round
        case rel => exact ⟨k + 1, by omega, by go_num, fun j hj => by
          by_cases e : j = k
          · rw [e]; exact hm
          · exact HN.out j (by omega)⟩
        case measure => simp [intOf]; omega
    · obtain rfl : k = 48 := by omega
      go_wp2_with fail
      go_ret
      exact IntOk.mk' (by rw [findA_none h1 h2 hs HN.out]; rfl) (HB.out.alloc HB.out.size _)
set_option maxHeartbeats 1000000 in
theorem refAtom_any (n : Int) (s : ByteArray) (w : World) : Calls Tryd.prog 17 #[.int .i64 n, .string s] w fun e w' => IntOk w e w' (findI (findA n s.toList)) := by
  by_cases hn : 1 ≤ n ∧ n ≤ 5
  · cases hs : s.toList.isEmpty with
    | false => exact refAtom_yes n s w hn.1 hn.2 hs
    | true =>
      obtain ⟨h1, h2⟩ := hn
      have hnone : Hid (findA n s.toList = none) := by
        show findA n s.toList = none
        unfold findA
        rw [if_neg (by rw [hs]; rintro ⟨_, _, h⟩; cases h)]
      have hd3 : decide (n ≤ 5) = true := by simpa using h2
      go_enter Tryd.func17, Tryd.ntmps17
      go_wp2_with fail
      refine (refTable_ok _).mono ?_
      intro e w1 hT
      obtain ⟨a1, c1, a2, c2, ss, rfl, hT, hb⟩ := hT
      obtain ⟨g, cap, hg⟩ := form_of hT.atoms (by omega)
      cases hg
      have HB := Lib.hid hb
      clear hT hb
      go_wp2_with fail
      go_loop [6] (fun i => ∃ k : Nat, k ≤ 48 ∧ i = .int .i64 k) (fun i => 48 - (intOf i).toNat)
      case atStart => exact ⟨0, by omega, rfl⟩
      case round =>
        obtain ⟨k, hk, rfl⟩ := hrel
        by_cases hlt : k < 48
        · have hk48 : (k : Int) < 48 := by omega
          go_wp2_with fail
          go_round
          case rel => exact ⟨k + 1, by omega, by go_num⟩
          case measure => simp [intOf]; omega
        · obtain rfl : k = 48 := by omega
          go_wp2_with fail
          go_ret
          exact IntOk.mk' (by rw [hnone.out]; rfl) (HB.out.alloc HB.out.size _)
  · have hnone : Hid (findA n s.toList = none) := by
      show findA n s.toList = none
      unfold findA
      rw [if_neg (by rintro ⟨a, b, _⟩; exact hn ⟨a, b⟩)]
    have hcases : n < 1 ∨ (1 ≤ n ∧ 5 < n) := by omega
    rcases hcases with h1 | ⟨h1, h2⟩
    · have hd1 : decide (1 ≤ n) = false := by simp; omega
      go_enter Tryd.func17, Tryd.ntmps17
      go_wp2_with fail
      refine (refTable_ok _).mono ?_
      intro e w1 hT
      obtain ⟨a1, c1, a2, c2, ss, rfl, hT, hb⟩ := hT
      have HB := Lib.hid hb
      clear hT hb
      go_wp2_with fail
      go_loop [6] (fun i => i = .int .i64 0) (fun _ => 0)
      case atStart => rfl
      case round =>
        subst hrel
        go_wp2_with fail
        go_ret
        exact IntOk.mk' (by rw [hnone.out]; rfl) (HB.out.alloc HB.out.size _)
    · have hd3 : decide (n ≤ 5) = false := by simp; omega
      go_enter Tryd.func17, Tryd.ntmps17
      go_wp2_with fail
      refine (refTable_ok _).mono ?_
      intro e w1 hT
      obtain ⟨a1, c1, a2, c2, ss, rfl, hT, hb⟩ := hT
      have HB := Lib.hid hb
      clear hT hb
      go_wp2_with fail
      go_loop [6] (fun i => i = .int .i64 0) (fun _ => 0)
      case atStart => rfl
      case round =>
        subst hrel
        go_wp2_with fail
        go_ret
        exact IntOk.mk' (by rw [hnone.out]; rfl) (HB.out.alloc HB.out.size _)

set_option maxHeartbeats 1000000 in
theorem refPreCode_any (n i : Int) (w : World) : Calls Tryd.prog 11 #[.int .i64 n, .int .i64 i] w fun e w' => StrOk w e w' (preOf n i) := by
  by_cases hc : 1 ≤ n ∧ n ≤ 5 ∧ 0 ≤ i ∧ i < 20
  · have hval : Hid (preOf n i = preCodeAt i.toNat (n.toNat - 1)) := if_pos hc
    obtain ⟨h1, h2, h3, h4⟩ := hc
    have hd1 : decide (i < 0) = false := by simp; omega
    have hd2 : decide (20 ≤ i) = false := by simp; omega
    have hd3 : decide (5 < n) = false := by simp; omega
    go_enter Tryd.func11, Tryd.ntmps11
    go_wp2_with fail
    refine (refTable_ok _).mono ?_
    intro e w1 hT
    obtain ⟨a1, c1, a2, c2, ss, rfl, hT, hb⟩ := hT
    obtain ⟨g, cap, hg⟩ := form_of hT.pres (by omega)
    cases hg
    have hcell : ∀ o, (w1.alloc o).cell? ⟨g, i.toNat * 6 + (n.toNat - 1), none⟩ = some (.string ⟨(preCodeAt i.toNat (n.toNat - 1)).toArray⟩) := fun o => cellAlloc o (pre_cell hT.pres _ _ (by omega) (by omega))
    have HB := Lib.hid hb
    clear hT hb
    go_wp2_with fail
    go_ret
    exact StrOk.mk' (by rw [hval.out]; rfl) (HB.out.alloc HB.out.size _)
  · have hval : Hid (preOf n i = []) := if_neg hc
    have hcases : n < 1 ∨ (1 ≤ n ∧ 5 < n) ∨ (1 ≤ n ∧ n ≤ 5 ∧ i < 0) ∨ (1 ≤ n ∧ n ≤ 5 ∧ 0 ≤ i ∧ 20 ≤ i) := by omega
    rcases hcases with h1 | ⟨h1, h2⟩ | ⟨h1, h2, h3⟩ | ⟨h1, h2, h3, h4⟩
    · have hd1 : decide (n < 1) = true := by simpa using h1
      go_enter Tryd.func11, Tryd.ntmps11
      go_wp2_with fail
      refine (refTable_ok _).mono ?_
      intro e w1 hT
      obtain ⟨a1, c1, a2, c2, ss, rfl, hT, hb⟩ := hT
      have HB := Lib.hid hb
      clear hT hb
      go_wp2_with fail
      go_ret
      exact StrOk.mk' (by rw [hval.out]; rfl) (HB.out.alloc HB.out.size _)
    · have hd1 : decide (n < 1) = false := by simp; omega
      have hd3 : decide (5 < n) = true := by simpa using h2
      go_enter Tryd.func11, Tryd.ntmps11
      go_wp2_with fail
      refine (refTable_ok _).mono ?_
      intro e w1 hT
      obtain ⟨a1, c1, a2, c2, ss, rfl, hT, hb⟩ := hT
      have HB := Lib.hid hb
      clear hT hb
      go_wp2_with fail
      go_ret
      exact StrOk.mk' (by rw [hval.out]; rfl) (HB.out.alloc HB.out.size _)
    · have hd1 : decide (n < 1) = false := by simp; omega
      have hd3 : decide (5 < n) = false := by simp; omega
      have hd2 : decide (i < 0) = true := by simpa using h3
      go_enter Tryd.func11, Tryd.ntmps11
      go_wp2_with fail
      refine (refTable_ok _).mono ?_
      intro e w1 hT
      obtain ⟨a1, c1, a2, c2, ss, rfl, hT, hb⟩ := hT
      have HB := Lib.hid hb
      clear hT hb
      go_wp2_with fail
      go_ret
      exact StrOk.mk' (by rw [hval.out]; rfl) (HB.out.alloc HB.out.size _)
    · have hd1 : decide (n < 1) = false := by simp; omega
      have hd3 : decide (5 < n) = false := by simp; omega
      have hd2 : decide (i < 0) = false := by simp; omega
      have hd4 : decide (20 ≤ i) = true := by simpa using h4
      go_enter Tryd.func11, Tryd.ntmps11
      go_wp2_with fail
      refine (refTable_ok _).mono ?_
      intro e w1 hT
      obtain ⟨a1, c1, a2, c2, ss, rfl, hT, hb⟩ := hT
      have HB := Lib.hid hb
      clear hT hb
      go_wp2_with fail
      go_ret
      exact StrOk.mk' (by rw [hval.out]; rfl) (HB.out.alloc HB.out.size _)
set_option maxHeartbeats 1000000 in
theorem refPrefix_yes (n : Int) (s : ByteArray) (w : World) (h1 : 1 ≤ n) (h2 : n ≤ 5) (hs : s.toList.isEmpty = false) : Calls Tryd.prog 18 #[.int .i64 n, .string s] w fun e w' => IntOk w e w' (findI (findP n s.toList)) := by
  have hd3 : decide (n ≤ 5) = true := by simpa using h2
  go_enter Tryd.func18, Tryd.ntmps18
  go_wp2_with fail
  refine (refTable_ok _).mono ?_
  intro e w1 hT
  obtain ⟨a1, c1, a2, c2, ss, rfl, hT, hb⟩ := hT
  obtain ⟨g, cap, hg⟩ := form_of hT.pres (by omega)
  cases hg
  have HA := Lib.hid hT.pres
  have HB := Lib.hid hb
  clear hT hb
  go_wp2_with fail
  go_loop [6] (fun i => ∃ k : Nat, k ≤ 20 ∧ i = .int .i64 k ∧ (∀ j, j < k → (preCodeAt j (n.toNat - 1) == s.toList) = false)) (fun i => 20 - (intOf i).toNat)
  case atStart => exact ⟨0, by omega, rfl, fun j hj => by omega⟩
  case round =>
    obtain ⟨k, hk, rfl, hno⟩ := hrel
    have HN := Lib.hid hno
    clear hno
    by_cases hlt : k < 20
    · have hcell : ∀ o, (w1.alloc o).cell? ⟨g, k * 6 + (n.toNat - 1), none⟩ = some (.string ⟨(preCodeAt k (n.toNat - 1)).toArray⟩) := fun o => cellAlloc o (pre_cell HA.out _ _ (by omega) (by omega))
      have hk48 : (k : Int) < 20 := by omega
      go_wp2_with fail
      · have hm : (preCodeAt k (n.toNat - 1) == s.toList) = true := by assumption
        go_ret
        exact IntOk.mk' (by rw [findP_some h1 h2 hs hlt hm HN.out]; rfl) (HB.out.alloc HB.out.size _)
      · have hm : (preCodeAt k (n.toNat - 1) == s.toList) = false := by assumption
        go_round
        case rel => exact ⟨k + 1, by omega, by go_num, fun j hj => by
          by_cases e : j = k
          · rw [e]; exact hm
          · exact HN.out j (by omega)⟩
        case measure => simp [intOf]; omega
    · obtain rfl : k = 20 := by omega
      go_wp2_with fail
      go_ret
      exact IntOk.mk' (by rw [findP_none h1 h2 hs HN.out]; rfl) (HB.out.alloc HB.out.size _)
set_option maxHeartbeats 1000000 in
theorem refPrefix_any (n : Int) (s : ByteArray) (w : World) : Calls Tryd.prog 18 #[.int .i64 n, .string s] w fun e w' => IntOk w e w' (findI (findP n s.toList)) := by
  by_cases hn : 1 ≤ n ∧ n ≤ 5
  · cases hs : s.toList.isEmpty with
    | false => exact refPrefix_yes n s w hn.1 hn.2 hs
    | true =>
      obtain ⟨h1, h2⟩ := hn
      have hnone : Hid (findP n s.toList = none) := by
        show findP n s.toList = none
        unfold findP
        rw [if_neg (by rw [hs]; rintro ⟨_, _, h⟩; cases h)]
      have hd3 : decide (n ≤ 5) = true := by simpa using h2
      go_enter Tryd.func18, Tryd.ntmps18
      go_wp2_with fail
      refine (refTable_ok _).mono ?_
      intro e w1 hT
      obtain ⟨a1, c1, a2, c2, ss, rfl, hT, hb⟩ := hT
      obtain ⟨g, cap, hg⟩ := form_of hT.pres (by omega)
      cases hg
      have HB := Lib.hid hb
      clear hT hb
      go_wp2_with fail
      go_loop [6] (fun i => ∃ k : Nat, k ≤ 20 ∧ i = .int .i64 k) (fun i => 20 - (intOf i).toNat)
      case atStart => exact ⟨0, by omega, rfl⟩
      case round =>
        obtain ⟨k, hk, rfl⟩ := hrel
        by_cases hlt : k < 20
        · have hk48 : (k : Int) < 20 := by omega
          go_wp2_with fail
          go_round
          case rel => exact ⟨k + 1, by omega, by go_num⟩
          case measure => simp [intOf]; omega
        · obtain rfl : k = 20 := by omega
          go_wp2_with fail
          go_ret
          exact IntOk.mk' (by rw [hnone.out]; rfl) (HB.out.alloc HB.out.size _)
  · have hnone : Hid (findP n s.toList = none) := by
      show findP n s.toList = none
      unfold findP
      rw [if_neg (by rintro ⟨a, b, _⟩; exact hn ⟨a, b⟩)]
    have hcases : n < 1 ∨ (1 ≤ n ∧ 5 < n) := by omega
    rcases hcases with h1 | ⟨h1, h2⟩
    · have hd1 : decide (1 ≤ n) = false := by simp; omega
      go_enter Tryd.func18, Tryd.ntmps18
      go_wp2_with fail
      refine (refTable_ok _).mono ?_
      intro e w1 hT
      obtain ⟨a1, c1, a2, c2, ss, rfl, hT, hb⟩ := hT
      have HB := Lib.hid hb
      clear hT hb
      go_wp2_with fail
      go_loop [6] (fun i => i = .int .i64 0) (fun _ => 0)
      case atStart => rfl
      case round =>
        subst hrel
        go_wp2_with fail
        go_ret
        exact IntOk.mk' (by rw [hnone.out]; rfl) (HB.out.alloc HB.out.size _)
    · have hd3 : decide (n ≤ 5) = false := by simp; omega
      go_enter Tryd.func18, Tryd.ntmps18
      go_wp2_with fail
      refine (refTable_ok _).mono ?_
      intro e w1 hT
      obtain ⟨a1, c1, a2, c2, ss, rfl, hT, hb⟩ := hT
      have HB := Lib.hid hb
      clear hT hb
      go_wp2_with fail
      go_loop [6] (fun i => i = .int .i64 0) (fun _ => 0)
      case atStart => rfl
      case round =>
        subst hrel
        go_wp2_with fail
        go_ret
        exact IntOk.mk' (by rw [hnone.out]; rfl) (HB.out.alloc HB.out.size _)
end Go.Proofs.YtiakjbocnfkmnaaDoor
