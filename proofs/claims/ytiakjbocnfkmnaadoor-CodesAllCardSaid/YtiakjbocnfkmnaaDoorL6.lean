/-
  The law's own small functions: awake, rest.
-/
import Derived.Test.YtiakjbocnfkmnaaDoorCc
set_option linter.unusedVariables false
set_option linter.unusedSimpArgs false
namespace Go.Proofs.YtiakjbocnfkmnaaDoor
open Go.RowKit
open Go.Proofs

theorem rest_eq (x n : Int) (h : 0 < n) (h2 : n < 100000) : (wrap64 (x.tmod n + n)).tmod n = x % n := by
  have h3 := Int.tmod_lt_of_pos x h
  have h4 : -n < x.tmod n := by
    have := Int.tmod_lt_of_pos (-x) h
    rw [Int.neg_tmod] at this
    omega
  have e : wrap64 (x.tmod n + n) = x.tmod n + n := by unfold wrap64; omega
  rw [e, Int.tmod_eq_emod_of_nonneg (by omega), Int.add_emod_right]
  rw [Int.tmod_eq_emod]
  split
  · simp
  · rw [Int.sub_emod, Int.emod_emod_of_dvd _ (Int.dvd_refl n)]
    have : ((n.natAbs : Int)) = n := by omega
    simp [this]
set_option maxHeartbeats 400000 in
theorem rest_any (x n : Int) (w : World) (h : 0 < n) (h2 : n < 100000) :
    Calls Tryd.prog 8 #[.int .i64 x, .int .i64 n] w fun e w' => e = .returned (.int .i64 (x % n)) ∧ w = w' := by
  have hne : (n == 0) = false := by simp; omega
  have he := Lib.hid (rest_eq x n h h2)
  go_enter Tryd.func8, Tryd.ntmps8
  go_wp2
  go_ret
  exact ⟨by rw [← he.out]; rfl, rfl⟩
theorem Laid.below {w w' : World} (h : Laid w) (hb : Below w.heap.size w w') : Laid w' := fun j u hu => by
  have := h j u hu
  exact (hb.cell (World.block_lt_of_cell? _ _ this)).trans this
theorem aw1 : findA 2 (⟨#[80, 65, 76]⟩ : ByteArray).toList = some 12 := by rw [ByteArray.toList_eq]; decide
theorem aw2 : findP 4 (⟨#[80, 69]⟩ : ByteArray).toList = some 3 := by rw [ByteArray.toList_eq]; decide
theorem aw3 : codeOf 4 13 = [74] := by decide
set_option maxHeartbeats 400000 in
theorem awake_any (w : World) (hL : Laid w) : Calls Tryd.prog 7 #[] w fun e w' => e = .returned (.bool true) ∧ Below w.heap.size w w' := by
  have HL := Lib.hid hL
  clear hL
  go_enter Tryd.func7, Tryd.ntmps7
  go_wp2_with fail
  refine (atom_any _ _ _ HL.out).mono ?_
  rintro e w1 ⟨he, hb1⟩
  rw [aw1] at he
  obtain rfl : e = .returned (.tuple #[.int .i64 12, .bool true]) := he
  go_wp2_with fail
  refine (prefix_any _ _ _ (HL.out.below hb1)).mono ?_
  rintro e w2 ⟨he, hb2⟩
  rw [aw2] at he
  obtain rfl : e = .returned (.tuple #[.int .i64 3, .bool true]) := he
  go_wp2_with fail
  refine (code_any _ _ _ ((HL.out.below hb1).below hb2)).mono ?_
  rintro e w3 ⟨he, hb3⟩
  rw [aw3] at he
  obtain rfl : e = .returned (.string ⟨#[74]⟩) := he
  go_wp2_with fail
  go_ret
  exact ⟨rfl, (hb1.trans (hb2.mono hb1.size)).trans (hb3.mono (Nat.le_trans hb1.size hb2.size))⟩
end Go.Proofs.YtiakjbocnfkmnaaDoor
