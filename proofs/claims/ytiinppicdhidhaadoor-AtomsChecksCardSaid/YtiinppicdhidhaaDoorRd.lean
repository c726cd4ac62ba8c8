/-
  The reference's whole numbers (drachmref01): Fits, size.
-/
import Derived.Test.YtiinppicdhidhaaDoorRc
import Derived.Test.YtiinppicdhidhaaDoorMk
set_option linter.unusedVariables false
set_option linter.unusedSimpArgs false
namespace Go.Proofs.YtiinppicdhidhaaDoor
open Go.RowKit
open Go.Proofs

theorem rfits_any (n : Int) (w : World) : Calls Tryd.prog 43 #[.int .i64 n] w fun e w' => e = .returned (.bool (fitsB n)) ∧ w = w' := by
  go_enter Tryd.func43, Tryd.ntmps43
  go_wp2_with fail
  go_ret
  exact ⟨rfl, rfl⟩
theorem rsize_any (n : Int) (w : World) (h1 : -9223372036854775807 ≤ n) (h2 : n ≤ 9223372036854775807) : Calls Tryd.prog 63 #[.int .i64 n] w fun e w' => e = .returned (.int .i64 (n.natAbs : Nat)) ∧ w = w' := by
  by_cases h : n < 0
  · have e : wrap64 (-n) = ((n.natAbs : Nat) : Int) := by unfold wrap64; omega
    have e0 : wrap64 (0 - n) = ((n.natAbs : Nat) : Int) := by unfold wrap64; omega
    have HE := Lib.hid e
    have HE0 := Lib.hid e0
    clear e e0
    go_enter Tryd.func63, Tryd.ntmps63
    go_wp2_with fail
    go_ret
    have hn : ((n.natAbs : Nat) : Int) = -n := by omega
    exact ⟨by first | (rw [hn]; rfl) | (rw [hn, Int.zero_sub]; rfl) | (rw [hn, ← Int.zero_sub]; rfl) | (rw [← HE0.out]; rfl) | (rw [← HE.out]; rfl), rfl⟩
  · have hn : ((n.natAbs : Nat) : Int) = n := by omega
    have HN := Lib.hid hn
    clear hn
    go_enter Tryd.func63, Tryd.ntmps63
    go_wp2_with fail
    go_ret
    exact ⟨by rw [HN.out]; rfl, rfl⟩
theorem rfits_yes (n : Int) (w : World) (h : -9223372036854775807 ≤ n) : Calls Tryd.prog 43 #[.int .i64 n] w fun e w' => e = .returned (.bool true) ∧ w = w' :=
  (rfits_any n w).mono fun e w' ⟨he, hw⟩ => ⟨by rw [he, fitsB, decide_eq_true h], hw⟩
set_option maxHeartbeats 1000000 in
/-- The greatest common divisor. -/
theorem rgcd_any (a b : Int) (w : World) (ha : -9223372036854775807 ≤ a) (ha2 : a ≤ 9223372036854775807) (hb : -9223372036854775807 ≤ b) (hb2 : b ≤ 9223372036854775807) : Calls Tryd.prog 54 #[.int .i64 a, .int .i64 b] w fun e w' => e = .returned (.int .i64 (Int.gcd a b : Nat)) ∧ w = w' := by
  have na : a.natAbs < 9223372036854775808 := by omega
  have nb : b.natAbs < 9223372036854775808 := by omega
  go_enter Tryd.func54, Tryd.ntmps54
  go_wp2_with fail
  refine (rfits_yes a _ ha).mono ?_
  rintro e wx ⟨rfl, rfl⟩
  go_wp2_with fail
  refine (rfits_yes b _ hb).mono ?_
  rintro e wx ⟨rfl, rfl⟩
  go_wp2_with fail
  refine (rsize_any a _ ha ha2).mono ?_
  rintro e wx ⟨rfl, rfl⟩
  go_wp2_with fail
  refine (rsize_any b _ hb hb2).mono ?_
  rintro e wx ⟨rfl, rfl⟩
  obtain ⟨ga, hga⟩ : ∃ g, a.natAbs = g := ⟨_, rfl⟩
  obtain ⟨gb, hgb⟩ : ∃ g, b.natAbs = g := ⟨_, rfl⟩
  rw [hga, hgb]
  have HG : Hid (Int.gcd a b = Nat.gcd ga gb) := by show _ = _; rw [← hga, ← hgb]; rfl
  rw [hga] at na
  rw [hgb] at nb
  clear hga hgb
  go_wp2_with fail
  go_loop [7, 8, 9] (fun x y _ => ∃ p q : Nat, p < 9223372036854775808 ∧ q < 9223372036854775808 ∧ x = .int .i64 (p : Int) ∧ y = .int .i64 (q : Int) ∧ Nat.gcd p q = Nat.gcd ga gb) (fun _ y _ => (intOf y).toNat)
  case atStart => exact ⟨ga, gb, na, nb, rfl, rfl, rfl⟩
  case round =>
    obtain ⟨p, q, hp, hq, rfl, rfl, hg⟩ := hrel
    have HG2 := Lib.hid hg
    clear hg
    by_cases h0 : q = 0
    · subst h0
      go_wp2_with fail
      go_ret
      exact ⟨by have := HG2.out; rw [Nat.gcd_zero_right] at this; rw [HG.out, ← this]; rfl, rfl⟩
    · have hq0 : ((q : Int) == 0) = false := by simp; omega
      have hq2 : 0 < q := by omega
      have hlt := Nat.mod_lt p (Nat.pos_of_ne_zero h0)
      go_wp2_with fail
      go_round
      case rel => exact ⟨q, p % q, hq, by omega, rfl, by simp, by rw [← HG2.out, Nat.gcd_comm p q, Nat.gcd_rec q p, Nat.gcd_comm]⟩
      case measure => simp [intOf]; omega
theorem rmul_over (a b : Int) (h0 : a ≠ 0) : (9223372036854775807 / a.natAbs < b.natAbs) ↔ ¬ (a * b).natAbs ≤ 9223372036854775807 := by
  have ha : 0 < a.natAbs := by omega
  rw [Nat.div_lt_iff_lt_mul ha, Int.natAbs_mul, Nat.mul_comm b.natAbs]
  omega
def numV (r : Option Int) : Value := match r with
  | some n => .agg #[.int .i64 n, .bool true]
  | none => .agg #[.int .i64 0, .bool false]
set_option maxRecDepth 100000 in
set_option maxHeartbeats 2000000 in
theorem rmul_zero (b : Int) (w : World) (hb : -9223372036854775807 ≤ b) : Calls Tryd.prog 52 #[.int .i64 0, .int .i64 b] w fun e w' => e = .returned (numV (mulI 0 b)) ∧ Below w.heap.size w w' := by
  have HO : Hid (mulI 0 b = some 0) := by show _ = _; unfold mulI; simp
  go_enter Tryd.func52, Tryd.ntmps52
  go_wp2_with fail
  refine (rfits_yes 0 _ (by omega)).mono ?_
  rintro e wx ⟨rfl, rfl⟩
  go_wp2_with fail
  refine (rfits_yes b _ hb).mono ?_
  rintro e wx ⟨rfl, rfl⟩
  go_wp2_with fail
  exact bodyPost_ret (v := .agg #[.int .i64 0, .bool true]) (by simp [results, Tryd.results52, go_sem]) rfl ⟨by rw [HO.out]; rfl, (Below.refl _ _).alloc (Nat.le_refl _) _⟩
set_option maxRecDepth 100000 in
set_option maxHeartbeats 2000000 in
theorem rmul_non (a b : Int) (w : World) (h0 : a ≠ 0) (ha : -9223372036854775807 ≤ a) (ha2 : a ≤ 9223372036854775807) (hb : -9223372036854775807 ≤ b) (hb2 : b ≤ 9223372036854775807) : Calls Tryd.prog 52 #[.int .i64 a, .int .i64 b] w fun e w' => e = .returned (numV (mulI a b)) ∧ Below w.heap.size w w' := by
  have hn0 : (a != 0) = true := by simpa using h0
  have hn1 : (a == 0) = false := by simpa using h0
  obtain ⟨x, hx⟩ : ∃ x, a.natAbs = x := ⟨_, rfl⟩
  obtain ⟨y, hy⟩ : ∃ x, b.natAbs = x := ⟨_, rfl⟩
  have hov := rmul_over a b h0
  have x0 : 0 < x := by omega
  have x1 : x ≤ 9223372036854775807 := by omega
  have y1 : y ≤ 9223372036854775807 := by omega
  rw [hx, hy] at hov
  have HX := Lib.hid hx
  have HY := Lib.hid hy
  have HOV := Lib.hid hov
  have xe : ((x : Int) == 0) = false := by simp; omega
  clear hx hy hov
  go_enter Tryd.func52, Tryd.ntmps52
  go_wp2_with fail
  refine (rfits_yes a _ ha).mono ?_
  rintro e wx ⟨rfl, rfl⟩
  go_wp2_with fail
  refine (rfits_yes b _ hb).mono ?_
  rintro e wx ⟨rfl, rfl⟩
  go_wp2_with fail
  refine (rsize_any b _ hb hb2).mono ?_
  rintro e wx ⟨rfl, rfl⟩
  rw [HY.out]
  go_wp2_with fail
  refine (rsize_any a _ ha ha2).mono ?_
  rintro e wx ⟨rfl, rfl⟩
  rw [HX.out]
  go_wp2_with fail
  · have h : 9223372036854775807 / (x : Int) < (y : Int) := by assumption
    have h2 : 9223372036854775807 / x < y := by
      have e : ((9223372036854775807 / x : Nat) : Int) = 9223372036854775807 / (x : Int) := by rw [Int.natCast_ediv]; rfl
      rw [← e] at h
      omega
    have hm : mulI a b = none := by unfold mulI; rw [if_neg (HOV.out.1 h2)]
    exact bodyPost_ret (v := .agg #[.int .i64 0, .bool false]) (by simp [results, Tryd.results52, go_sem]) rfl ⟨by rw [hm]; rfl, (Below.refl _ _).alloc (Nat.le_refl _) _⟩
  · have h : (y : Int) ≤ 9223372036854775807 / (x : Int) := by assumption
    have h2 : ¬ 9223372036854775807 / x < y := by
      have e : ((9223372036854775807 / x : Nat) : Int) = 9223372036854775807 / (x : Int) := by rw [Int.natCast_ediv]; rfl
      rw [← e] at h
      omega
    have h3 : (a * b).natAbs ≤ 9223372036854775807 := by
      have := HOV.out
      exact Decidable.not_not.1 (fun hc => h2 (this.2 hc))
    have hm : mulI a b = some (a * b) := by unfold mulI; rw [if_pos h3]
    have hw : wrap64 (a * b) = a * b := by unfold wrap64; omega
    exact bodyPost_ret (v := .agg #[.int .i64 (wrap64 (a * b)), .bool true]) (by simp [results, Tryd.results52, go_sem]) rfl ⟨by rw [hm, hw]; rfl, (Below.refl _ _).alloc (Nat.le_refl _) _⟩
end Go.Proofs.YtiinppicdhidhaaDoor
