/-
  The reference's numbers, in plain words: what 'of' and 'form' compute is what frac.Make computes.
-/
import Derived.Test.YtiinppicdhidhaaDoorMk
set_option linter.unusedVariables false
set_option linter.unusedSimpArgs false
namespace Go.Proofs.YtiinppicdhidhaaDoor
open Go.RowKit
open Go.Proofs

theorem splitF_neg (p : Int) : ∀ (f : Nat) (n : Int), splitF p f (-n) = ((splitF p f n).1, -(splitF p f n).2)
  | 0, n => rfl
  | f + 1, n => by
    have hm : (-n).tmod p = -(n.tmod p) := Int.neg_tmod ..
    by_cases h : n.tmod p = 0
    · rw [splitF_yes h, splitF_yes (by rw [hm, h]; rfl), Int.neg_tdiv, splitF_neg p f (n.tdiv p)]
    · rw [splitF_no h, splitF_no (by rw [hm]; omega)]
theorem splitF_pos {p : Int} (hp : 2 ≤ p) : ∀ (f : Nat) (n : Int), 0 < n → 0 < (splitF p f n).2
  | 0, n, h => h
  | f + 1, n, h => by
    by_cases hd : n.tmod p = 0
    · rw [splitF_yes hd]
      have hh := half p n hp hd
      have h1 : 0 ≤ n.tdiv p := Int.tdiv_nonneg (by omega) (by omega)
      have h0 : n.tdiv p ≠ 0 := fun e => by rw [e] at hh; simp at hh; omega
      exact splitF_pos hp f _ (by omega)
    · rw [splitF_no hd]; exact h
def sgnI (n : Int) : Int := if n < 0 then -1 else 1
theorem sgn_abs (n : Int) : n = sgnI n * (n.natAbs : Int) := by
  unfold sgnI
  split <;> omega
theorem sgn_one (n : Int) : sgnI n = 1 ∨ sgnI n = -1 := by
  unfold sgnI
  split
  · exact .inr rfl
  · exact .inl rfl
/-- The number without its sign. -/
def looseA (num den : Int) : LooseD := loosenI (num.natAbs : Nat) (den.natAbs : Nat)
theorem splitF_sgn (p : Int) (f : Nat) (s n : Int) (hs : s = 1 ∨ s = -1) : splitF p f (s * n) = ((splitF p f n).1, s * (splitF p f n).2) := by
  rcases hs with rfl | rfl
  · simp
  · rw [Int.neg_one_mul, splitF_neg, Int.neg_one_mul]
theorem gcd_sgn (s t a b : Int) (hs : s = 1 ∨ s = -1) (ht : t = 1 ∨ t = -1) : Int.gcd (s * a) (t * b) = Int.gcd a b := by
  rcases hs with rfl | rfl <;> rcases ht with rfl | rfl <;> simp [Int.neg_one_mul, Int.gcd_neg, Int.neg_gcd]
theorem loose_abs (num den : Int) (h0 : num ≠ 0) (k0 : den ≠ 0) : loosenI num den = { looseA num den with up := sgnI num * sgnI den * (looseA num den).up } := by
  have hs := sgn_one num
  have ht := sgn_one den
  have hp : 0 < (splitF 5 64 (splitF 2 64 (den.natAbs : Int)).2).2 := splitF_pos (by omega) 64 _ (splitF_pos (by omega) 64 _ (by omega))
  unfold looseA
  conv => lhs; rw [sgn_abs num, sgn_abs den]
  simp only [loosenI, splitF_sgn _ _ _ _ hs, splitF_sgn _ _ _ _ ht, gsign, gcd_sgn _ _ _ _ hs ht, LooseD.mk.injEq, and_true]
  rw [if_neg (by omega : ¬ (splitF 5 64 (splitF 2 64 (den.natAbs : Int)).2).2 < 0)]
  rcases ht with ht | ht
  · rw [ht, if_neg (by omega)]
    rcases hs with hs | hs <;> rw [hs] <;> simp [Int.neg_one_mul, Int.neg_tdiv]
  · rw [ht, if_pos (by omega)]
    rcases hs with hs | hs <;> rw [hs] <;> simp [Int.neg_one_mul, Int.neg_tdiv, Int.tdiv_neg]
/-! So often times 2, or 5. -/
def putP (p : Int) : Nat → Int → Option Int
  | 0, n => some n
  | k + 1, n => match mulI n p with
    | some m => putP p k m
    | none => none
theorem mulI_sgn (s n p : Int) (hs : s = 1 ∨ s = -1) : mulI (s * n) p = (mulI n p).map (s * ·) := by
  have h : (s * n * p).natAbs = (n * p).natAbs := by
    rcases hs with rfl | rfl <;> simp [Int.neg_one_mul, Int.neg_mul]
  unfold mulI
  rw [h]
  split <;> simp [Int.mul_assoc]
theorem putP_some (p s : Int) (hs : s = 1 ∨ s = -1) : ∀ (k : Nat) (n m : Int), putP p k n = some m → putI p k (s * n) true = (s * m, true)
  | 0, n, m, h => by cases h; rfl
  | k + 1, n, m, h => by
    rw [putP] at h
    rw [putI, mulI_sgn s n p hs]
    cases e : mulI n p with
    | none => rw [e] at h; cases h
    | some x => rw [e] at h; exact putP_some p s hs k x m h
theorem putP_none (p s : Int) (hs : s = 1 ∨ s = -1) : ∀ (k : Nat) (n : Int), putP p k n = none → (putI p k (s * n) true).2 = false
  | 0, n, h => by cases h
  | k + 1, n, h => by
    rw [putP] at h
    rw [putI, mulI_sgn s n p hs]
    cases e : mulI n p with
    | none => rfl
    | some x => rw [e] at h; exact putP_none p s hs k x h
/-- What form answers: of a number without its sign, and a sign. -/
def formR (s : Int) (x : LooseD) (ten : Int) : (Int × Int × Int) × Int :=
  if ten < -2000 ∨ 2000 < ten then ((0, 0, 0), 10) else formI { x with up := s * x.up } ten
/-- By which number, how often, and the least. -/
def byR (x : LooseD) : Int := if x.t0 < x.t1 then 5 else 2
def timesR (x : LooseD) : Nat := if x.t0 < x.t1 then (x.t1 - x.t0).toNat else (x.t0 - x.t1).toNat
theorem form_puts (s : Int) (hs : s = 1 ∨ s = -1) (x : LooseD) (ten : Int) (m : Int) (h : putP (byR x) (timesR x) x.up = some m) :
    formR s x ten = if ten < -2000 ∨ 2000 < ten ∨ ten + min x.t0 x.t1 < -1000 ∨ 1000 < ten + min x.t0 x.t1 then ((0, 0, 0), 10) else ((s * m, x.down, ten + min x.t0 x.t1), 0) := by
  have hp := putP_some (byR x) s hs (timesR x) x.up m h
  unfold formR
  by_cases ht : ten < -2000 ∨ 2000 < ten
  · rw [if_pos ht, if_pos (by omega)]
  · rw [if_neg ht]
    have e : putI 5 (x.t1 - min x.t0 x.t1).toNat (putI 2 (x.t0 - min x.t0 x.t1).toNat (s * x.up) true).1 (putI 2 (x.t0 - min x.t0 x.t1).toNat (s * x.up) true).2 = (s * m, true) := by
      unfold byR timesR at hp
      by_cases hc : x.t0 < x.t1
      · rw [if_pos hc, if_pos hc] at hp
        rw [show min x.t0 x.t1 = x.t0 by omega, show (x.t0 - x.t0).toNat = 0 by omega]
        exact hp
      · rw [if_neg hc, if_neg hc] at hp
        rw [show min x.t0 x.t1 = x.t1 by omega, show (x.t1 - x.t1).toNat = 0 by omega, hp]
        rfl
    simp only [formI, e]
    by_cases hr : ten + min x.t0 x.t1 < -1000 ∨ 1000 < ten + min x.t0 x.t1
    · rw [if_pos (.inr hr), if_pos (by omega)]
    · rw [if_neg (by simp; omega), if_neg (by omega)]
theorem form_over (s : Int) (hs : s = 1 ∨ s = -1) (x : LooseD) (ten : Int) (h : putP (byR x) (timesR x) x.up = none) : formR s x ten = ((0, 0, 0), 10) := by
  have hp := putP_none (byR x) s hs (timesR x) x.up h
  unfold formR
  split
  · rfl
  · have e : (putI 5 (x.t1 - min x.t0 x.t1).toNat (putI 2 (x.t0 - min x.t0 x.t1).toNat (s * x.up) true).1 (putI 2 (x.t0 - min x.t0 x.t1).toNat (s * x.up) true).2).2 = false := by
      unfold byR timesR at hp
      by_cases hc : x.t0 < x.t1
      · rw [if_pos hc, if_pos hc] at hp
        rw [show min x.t0 x.t1 = x.t0 by omega, show (x.t0 - x.t0).toNat = 0 by omega]
        exact hp
      · rw [if_neg hc, if_neg hc] at hp
        rw [show min x.t0 x.t1 = x.t1 by omega, show (x.t1 - x.t1).toNat = 0 by omega]
        rw [putI]
        exact hp
    simp only [formI, e]
    simp
theorem make_ref (num den ten : Int) (h1 : -9223372036854775807 ≤ num) (k1 : -9223372036854775807 ≤ den) (h0 : num ≠ 0) (k0 : den ≠ 0) : makeI num den ten = formR (sgnI num * sgnI den) (looseA num den) ten := by
  rw [makeI, if_neg (by omega), if_neg k0, if_neg h0, formR, loose_abs num den h0 k0]
end Go.Proofs.YtiinppicdhidhaaDoor
