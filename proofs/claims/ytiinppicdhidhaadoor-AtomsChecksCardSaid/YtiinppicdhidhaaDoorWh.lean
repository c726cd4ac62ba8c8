/-
  whole: the contracts of Fits, size, fit, gcd, Gcd, Split, Mul.
-/
import Derived.WalkKit
import Derived.LoopTactic
import Derived.BigQuiet
import Derived.Deep.QuietTactic
import Derived.WalkLawsBesides
import Derived.Deep.LoopGhost
import Derived.Lib.Hide
import Derived.Test.YtiinppicdhidhaaDoorShl
import Derived.Test.YtiinppicdhidhaaDoorTb
set_option linter.unusedVariables false
set_option linter.unusedSimpArgs false
namespace Go.Proofs.YtiinppicdhidhaaDoor
open Go.RowKit
open Go.Proofs

def fitsB (n : Int) : Bool := decide (-9223372036854775807 ≤ n)
theorem fits_any (n : Int) (w : World) : Calls Tryd.prog 38 #[.int .i64 n] w fun e w' => e = .returned (.bool (fitsB n)) ∧ w = w' := by
  go_enter Tryd.func38, Tryd.ntmps38
  go_wp2
  go_ret
  exact ⟨rfl, rfl⟩
theorem fits_yes (n : Int) (w : World) (h : -9223372036854775807 ≤ n) : Calls Tryd.prog 38 #[.int .i64 n] w fun e w' => e = .returned (.bool true) ∧ w = w' :=
  (fits_any n w).mono fun e w' ⟨he, hw⟩ => ⟨by rw [he, fitsB, decide_eq_true h], hw⟩
theorem fits_no (n : Int) (w : World) (h : ¬ -9223372036854775807 ≤ n) : Calls Tryd.prog 38 #[.int .i64 n] w fun e w' => e = .returned (.bool false) ∧ w = w' :=
  (fits_any n w).mono fun e w' ⟨he, hw⟩ => ⟨by rw [he, fitsB, decide_eq_false h], hw⟩
/-- A number without its sign, as the uint64 that it is. -/
theorem size_any (n : Int) (w : World) (h1 : -9223372036854775807 ≤ n) (h2 : n ≤ 9223372036854775807) : Calls Tryd.prog 61 #[.int .i64 n] w fun e w' => e = .returned (.int .u64 (n.natAbs : Nat)) ∧ w = w' := by
  by_cases h : n < 0
  · have e : -n = (n.natAbs : Int) := by omega
    go_enter Tryd.func61, Tryd.ntmps61
    have HE := Lib.hid e
    clear e
    go_wp2
    go_ret
    exact ⟨by rw [← HE.out]; rfl, rfl⟩
  · have e : n = (n.natAbs : Int) := by omega
    have HE := Lib.hid e
    clear e
    go_enter Tryd.func61, Tryd.ntmps61
    go_wp2
    go_ret
    exact ⟨by rw [← HE.out]; rfl, rfl⟩
/-- The greatest common divisor, by what is left. -/
theorem gcd_any (a b : Nat) (w : World) (ha : a < 18446744073709551616) (hb : b < 18446744073709551616) : Calls Tryd.prog 60 #[.int .u64 a, .int .u64 b] w fun e w' => e = .returned (.int .u64 (Nat.gcd a b : Nat)) ∧ ∃ n, w' = w.drewN n := by
  go_enter Tryd.func60, Tryd.ntmps60
  go_wp2
  go_loopw [0, 1] (fun x y wr => ∃ p q : Nat, p < 18446744073709551616 ∧ q < 18446744073709551616 ∧ x = .int .u64 p ∧ y = .int .u64 q ∧ Nat.gcd p q = Nat.gcd a b ∧ ∃ n, wr = w.drewN n) (fun _ y _ => (intOf y).toNat)
  case atStart => exact ⟨a, b, ha, hb, rfl, rfl, rfl, 0, rfl⟩
  case round =>
    obtain ⟨p, q, hp, hq, rfl, rfl, hg, n, rfl⟩ := hrel
    have HG := Lib.hid hg
    clear hg
    by_cases h0 : q = 0
    · subst h0
      go_wp2
      go_ret
      exact ⟨by have := HG.out; rw [Nat.gcd_zero_right] at this; rw [← this]; rfl, n, rfl⟩
    · have hq0 : ((q : Int) == 0) = false := by simp; omega
      have hq1 : ((q : Int) != 0) = true := by simp; omega
      have hlt := Nat.mod_lt p (Nat.pos_of_ne_zero h0)
      go_wp2
      go_quiet (fail)
      go_wp2
      go_roundw
      case rel => exact ⟨q, p % q, hq, by omega, rfl, by simp, by rw [← HG.out, Nat.gcd_comm p q, Nat.gcd_rec q p, Nat.gcd_comm], n + nq, by rw [World.drewN_drewN]⟩
      case measure => simp [intOf]; omega
/-- Two numbers in a slice. -/
theorem fit_any (g : Nat) (a b : Int) (w : World) (h0 : w.cell? ⟨g, 0, none⟩ = some (.int .i64 a)) (h1 : w.cell? ⟨g, 1, none⟩ = some (.int .i64 b)) :
    Calls Tryd.prog 59 #[.slice (some ⟨g, 0, none⟩) 2 2] w fun e w' => e = .returned (.bool (fitsB a && fitsB b)) ∧ w = w' := by
  go_enter Tryd.func59, Tryd.ntmps59
  go_wp2
  refine wp_loop_rounds 3 ?_
  rw [rounds_succ]
  by_cases ha : -9223372036854775807 ≤ a
  · go_wp2_with (go_at_call 38; refine (fits_yes _ _ ha).mono ?_; rintro e wx ⟨rfl, rfl⟩)
    rw [rounds_succ]
    by_cases hb : -9223372036854775807 ≤ b
    · go_wp2_with (go_at_call 38; refine (fits_yes _ _ hb).mono ?_; rintro e wx ⟨rfl, rfl⟩)
      rw [rounds_succ]
      go_wp2
      go_ret
      exact ⟨by rw [fitsB, decide_eq_true ha, fitsB, decide_eq_true hb]; rfl, rfl⟩
    · go_wp2_with (go_at_call 38; refine (fits_no _ _ hb).mono ?_; rintro e wx ⟨rfl, rfl⟩)
      go_ret
      exact ⟨by rw [fitsB, decide_eq_true ha, fitsB, decide_eq_false (by omega)]; rfl, rfl⟩
  · go_wp2_with (go_at_call 38; refine (fits_no _ _ ha).mono ?_; rintro e wx ⟨rfl, rfl⟩)
    go_ret
    exact ⟨by rw [fitsB, decide_eq_false (by omega)]; rfl, rfl⟩
/-- Gcd of two that fit. -/
theorem Gcd_any (a b : Int) (w : World) (ha : -9223372036854775807 ≤ a) (ha2 : a ≤ 9223372036854775807) (hb : -9223372036854775807 ≤ b) (hb2 : b ≤ 9223372036854775807) (h0 : a ≠ 0) :
    Calls Tryd.prog 49 #[.int .i64 a, .int .i64 b] w fun e w' => e = .returned (.int .i64 (Int.gcd a b : Nat)) ∧ ∃ n, w' = (w.alloc (.cells #[.int .i64 a, .int .i64 b] 2)).drewN n := by
  have hgl : Int.gcd a b ≤ a.natAbs := Nat.le_of_dvd (by omega) (Nat.gcd_dvd_left _ _)
  have hf : fitsB a = true := by rw [fitsB, decide_eq_true ha]
  have hf2 : fitsB b = true := by rw [fitsB, decide_eq_true hb]
  have HF : Hid ((fitsB a && fitsB b) = true) := by show _ = true; rw [hf, hf2]; rfl
  have HGE : Hid (Nat.gcd a.natAbs b.natAbs = Int.gcd a b) := rfl
  clear hf hf2
  go_enter Tryd.func49, Tryd.ntmps49
  go_wp2_with fail
  refine (fit_any w.heap.size a b _ (cellNew w _ _ 0 _ rfl) (cellNew w _ _ 1 _ rfl)).mono ?_
  rintro e w1 ⟨rfl, rfl⟩
  rw [HF.out]
  go_wp2_with fail
  refine (size_any a _ ha ha2).mono ?_
  rintro e w1 ⟨rfl, rfl⟩
  go_wp2_with fail
  refine (size_any b _ hb hb2).mono ?_
  rintro e w1 ⟨rfl, rfl⟩
  go_wp2_with fail
  refine (gcd_any a.natAbs b.natAbs _ (by omega) (by omega)).mono ?_
  rintro e w1 ⟨rfl, n, rfl⟩
  obtain ⟨g, hg⟩ : ∃ g, Int.gcd a b = g := ⟨_, rfl⟩
  rw [HGE.out, hg]
  rw [hg] at hgl
  have HG := Lib.hid hg
  clear hg
  have hg63 : (g : Int) ≤ 9223372036854775807 := by omega
  go_wp2_with fail
  go_ret
  exact ⟨by rw [HG.out]; rfl, n, rfl⟩
/-! Split: how often a number is divided, and what is left. -/
def splitF (p : Int) : Nat → Int → Nat × Int
  | 0, n => (0, n)
  | f + 1, n => if n.tmod p = 0 then ((splitF p f (n.tdiv p)).1 + 1, (splitF p f (n.tdiv p)).2) else (0, n)
theorem splitF_yes {p n : Int} {f : Nat} (h : n.tmod p = 0) : splitF p (f + 1) n = ((splitF p f (n.tdiv p)).1 + 1, (splitF p f (n.tdiv p)).2) := by rw [splitF, if_pos h]
theorem splitF_no {p n : Int} {f : Nat} (h : n.tmod p ≠ 0) : splitF p (f + 1) n = (0, n) := by rw [splitF, if_neg h]
theorem half (p n : Int) (hp : 2 ≤ p) (h : n.tmod p = 0) : n.natAbs = p.natAbs * (n.tdiv p).natAbs := by
  have h2 := Int.mul_tdiv_add_tmod n p
  rw [h, Int.add_zero] at h2
  rw [← Int.natAbs_mul, h2]
theorem pow_lt63 {m n : Int} {k : Nat} (h0 : m ≠ 0) (h : m.natAbs * 2 ^ k ≤ n.natAbs) (hn : n.natAbs ≤ 9223372036854775807) : k ≤ 62 := by
  by_cases hk : k ≤ 62
  · exact hk
  · have h1 : 2 ^ 63 ≤ 2 ^ k := Nat.pow_le_pow_right (by omega) (by omega)
    have h2 : 2 ^ k ≤ m.natAbs * 2 ^ k := Nat.le_mul_of_pos_left _ (by omega)
    omega
set_option maxHeartbeats 1000000 in
theorem Split_any (n p : Int) (hp : p = 2 ∨ p = 5) (w : World) (h0 : n ≠ 0) (h1 : -9223372036854775807 ≤ n) (h2 : n ≤ 9223372036854775807) :
    Calls Tryd.prog 48 #[.int .i64 n, .int .i64 p] w fun e w' => e = .returned (.tuple #[.int .i64 ((splitF p 64 n).1 : Nat), .int .i64 (splitF p 64 n).2]) ∧ w = w' := by
  have hn0 : (n == 0) = false := by simpa using h0
  have hp2 : 2 ≤ p := by omega
  have hp5 : p ≤ 5 := by omega
  have HP := Lib.hid hp
  have hpd : decide (p < 2) = false := by simp; omega
  clear hp
  go_enter Tryd.func48, Tryd.ntmps48
  go_wp2_with (go_at_call 38; refine (fits_yes _ _ h1).mono ?_; rintro e wx ⟨rfl, rfl⟩)
  go_loop [0, 6] (fun x i => ∃ (m : Int) (k : Nat), m ≠ 0 ∧ m.natAbs * 2 ^ k ≤ n.natAbs ∧ x = .int .i64 m ∧ i = .int .i64 (k : Int) ∧ splitF p 64 n = (k + (splitF p (64 - k) m).1, (splitF p (64 - k) m).2)) (fun x _ => (intOf x).natAbs)
  case atStart => exact ⟨n, 0, h0, by simp, rfl, rfl, by simp⟩
  case round =>
    obtain ⟨m, k, hm0, hle, rfl, rfl, hs⟩ := hrel
    have hk := pow_lt63 hm0 hle (by omega)
    have HS := Lib.hid hs
    have HLE := Lib.hid hle
    have hm1 : m.natAbs ≤ n.natAbs := Nat.le_trans (Nat.le_mul_of_pos_right _ (Nat.two_pow_pos k)) hle
    have hm2 : -9223372036854775807 ≤ m := by omega
    have hm3 : m ≤ 9223372036854775807 := by omega
    obtain ⟨f, hf⟩ : ∃ f, 64 - k = f + 1 := ⟨63 - k, by omega⟩
    have HF := Lib.hid hf
    clear hs hle hm1 hf
    by_cases hd : m.tmod p = 0
    · have hh := half p m hp2 hd
      have hmb : (m.tmod p == 0) = true := by simpa using hd
      have HD := Lib.hid hd
      have hq0 : m.tdiv p ≠ 0 := fun e => by rw [e] at hh; simp at hh; omega
      have hq1 : (m.tdiv p).natAbs * 2 ≤ m.natAbs := by
        rw [hh, Nat.mul_comm]
        exact Nat.mul_le_mul_right _ (by omega)
      have HQ0 := Lib.hid hq0
      have HQ1 := Lib.hid hq1
      have hq2 : -9223372036854775807 ≤ m.tdiv p := by omega
      have hq3 : m.tdiv p ≤ 9223372036854775807 := by omega
      clear hh hd hq0 hq1
      go_wp2
      go_round
      case rel =>
        refine ⟨m.tdiv p, k + 1, HQ0.out, ?_, rfl, by simp, ?_⟩
        · rw [Nat.pow_succ, Nat.mul_comm (2 ^ k) 2, ← Nat.mul_assoc]
          exact Nat.le_trans (Nat.mul_le_mul_right _ HQ1.out) HLE.out
        · rw [HS.out, HF.out, splitF_yes HD.out, show 64 - (k + 1) = f by have := HF.out; omega]
          simp only [Prod.mk.injEq, and_true]
          omega
      case measure => have h5 := HQ1.out; have h6 := HQ0.out; show (m.tdiv p).natAbs < m.natAbs; omega
    · have hmb : (m.tmod p == 0) = false := by simpa using hd
      have HD := Lib.hid hd
      clear hd
      go_wp2
      go_ret2
      exact ⟨by rw [HS.out, HF.out, splitF_no HD.out]; rfl, rfl⟩
/-! Mul. -/
def mulI (a b : Int) : Option Int := if (a * b).natAbs ≤ 9223372036854775807 then some (a * b) else none
def mulV : Option Int → Value
  | some n => .tuple #[.int .i64 n, .bool true]
  | none => .tuple #[.int .i64 0, .bool false]
set_option maxHeartbeats 1000000 in
theorem Mul_any (a b : Int) (w : World) (ha : -9223372036854775807 ≤ a) (ha2 : a ≤ 9223372036854775807) (hb : -9223372036854775807 ≤ b) (hb2 : b ≤ 9223372036854775807) :
    Calls Tryd.prog 51 #[.int .i64 a, .int .i64 b] w fun e w' => e = .returned (mulV (mulI a b)) ∧ w' = w.alloc (.cells #[.int .i64 a, .int .i64 b] 2) := by
  have hf : fitsB a = true := by rw [fitsB, decide_eq_true ha]
  have hf2 : fitsB b = true := by rw [fitsB, decide_eq_true hb]
  have HF : Hid ((fitsB a && fitsB b) = true) := by show _ = true; rw [hf, hf2]; rfl
  have hn : (a * b).natAbs = a.natAbs * b.natAbs := Int.natAbs_mul a b
  clear hf hf2
  have hz : a.natAbs * b.natAbs < 18446744073709551616 * 18446744073709551616 := by
    have h1 : a.natAbs * b.natAbs ≤ 9223372036854775807 * 9223372036854775807 := Nat.mul_le_mul (by omega) (by omega)
    omega
  obtain ⟨z, hzz⟩ : ∃ z, a.natAbs * b.natAbs = z := ⟨_, rfl⟩
  rw [hzz] at hn hz
  have HM : Hid (mulI a b = if z ≤ 9223372036854775807 then some (a * b) else none) := by show mulI a b = _; rw [mulI, hn]
  have hsg : ((a < 0 ∧ b < 0) ∨ (0 ≤ a ∧ 0 ≤ b)) ∧ a * b = z ∨ ((a < 0 ∧ 0 ≤ b) ∨ (0 ≤ a ∧ b < 0)) ∧ a * b = -z := by
    by_cases h1 : a < 0
    · by_cases h2 : b < 0
      · have := Int.mul_pos_of_neg_of_neg h1 h2
        exact .inl ⟨.inl ⟨h1, h2⟩, by omega⟩
      · have := Int.mul_nonpos_of_nonpos_of_nonneg (a := a) (b := b) (by omega) (by omega)
        exact .inr ⟨.inl ⟨h1, by omega⟩, by omega⟩
    · by_cases h2 : b < 0
      · have := Int.mul_nonpos_of_nonneg_of_nonpos (a := a) (b := b) (by omega) (by omega)
        exact .inr ⟨.inr ⟨by omega, h2⟩, by omega⟩
      · have := Int.mul_nonneg (a := a) (b := b) (by omega) (by omega)
        exact .inl ⟨.inr ⟨by omega, by omega⟩, by omega⟩
  have HZ := Lib.hid hzz
  clear hn hzz
  go_enter Tryd.func51, Tryd.ntmps51
  go_wp2_with fail
  refine (fit_any w.heap.size a b _ (cellNew w _ _ 0 _ rfl) (cellNew w _ _ 1 _ rfl)).mono ?_
  rintro e w1 ⟨rfl, rfl⟩
  rw [HF.out]
  go_wp2_with fail
  refine (size_any a _ ha ha2).mono ?_
  rintro e w1 ⟨rfl, rfl⟩
  go_wp2_with fail
  refine (size_any b _ hb hb2).mono ?_
  rintro e w1 ⟨rfl, rfl⟩
  go_wp2_with fail
  refine (Tryd.bits_Mul64 a.natAbs b.natAbs (by omega) (by omega) _).mono ?_
  rintro e w2 ⟨rfl, hw2⟩
  subst w2
  rw [HZ.out]
  by_cases hbig : 18446744073709551616 ≤ z
  · have hq : 0 < z / 18446744073709551616 := by omega
    have HO : Hid (mulI a b = none) := by show _ = _; rw [HM.out, if_neg (by omega)]
    generalize z / 18446744073709551616 = q at hq ⊢
    generalize z % 18446744073709551616 = q2
    clear hsg
    go_wp2
    go_ret2
    exact ⟨by rw [HO.out]; rfl, rfl⟩
  · have h0 : z / 18446744073709551616 = 0 := by omega
    have h1 : z % 18446744073709551616 = z := by omega
    rw [h0, h1]
    by_cases hm : z ≤ 9223372036854775807
    · have HO : Hid (mulI a b = some (a * b)) := by show _ = _; rw [HM.out, if_pos hm]
      have hz63 : (z : Int) ≤ 9223372036854775807 := by omega
      clear h0 h1
      rcases hsg with ⟨⟨s1, s2⟩ | ⟨s1, s2⟩, hv⟩ | ⟨⟨s1, s2⟩ | ⟨s1, s2⟩, hv⟩
      · have HV := Lib.hid hv
        have d1 : decide (a < 0) = true := by simpa using s1
        have d2 : decide (b < 0) = true := by simpa using s2
        clear hv
        go_wp2
        go_ret2
        exact ⟨by rw [HO.out, HV.out]; rfl, rfl⟩
      · have HV := Lib.hid hv
        have d1 : decide (a < 0) = false := by simpa using s1
        have d2 : decide (b < 0) = false := by simpa using s2
        clear hv
        go_wp2
        go_ret2
        exact ⟨by rw [HO.out, HV.out]; rfl, rfl⟩
      · have HV := Lib.hid hv
        have d1 : decide (a < 0) = true := by simpa using s1
        have d2 : decide (b < 0) = false := by simpa using s2
        clear hv
        go_wp2
        go_ret2
        exact ⟨by rw [HO.out, HV.out]; rfl, rfl⟩
      · have HV := Lib.hid hv
        have d1 : decide (a < 0) = false := by simpa using s1
        have d2 : decide (b < 0) = true := by simpa using s2
        clear hv
        go_wp2
        go_ret2
        exact ⟨by rw [HO.out, HV.out]; rfl, rfl⟩
    · have HO : Hid (mulI a b = none) := by show _ = _; rw [HM.out, if_neg hm]
      have hz63 : ¬ (z : Int) ≤ 9223372036854775807 := by omega
      clear h0 h1 hsg
      go_wp2
      go_ret2
      exact ⟨by rw [HO.out]; rfl, rfl⟩
end Go.Proofs.YtiinppicdhidhaaDoor
