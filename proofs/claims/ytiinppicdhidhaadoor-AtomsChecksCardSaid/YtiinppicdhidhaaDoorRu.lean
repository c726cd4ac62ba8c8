/-
  The reference's worth: may the worth of the atom at a place be?
-/
import Derived.Test.YtiinppicdhidhaaDoorRv
import Derived.Test.YtiinppicdhidhaaDoorWv
set_option linter.unusedVariables false
set_option linter.unusedSimpArgs false
namespace Go.Proofs.YtiinppicdhidhaaDoor
open Go.RowKit
open Go.Proofs

/-- None of the first k terms is wrong. -/
def NoBad (t : List AtomD) (n : Nat) (ts : List (Int × Int)) (k : Nat) : Prop := ∀ j (h : j < k) (h' : j < ts.length), badT t n ts[j] = false
theorem rworth_yes {t : List AtomD} {n : Nat} {ts : List (Int × Int)} (h : NoBad t n ts ts.length) : (!decide (0 ≤ idxT (badT t n) ts)) = true := by
  rw [idxT_none _ _ (fun j h' => h j h' h')]; rfl
theorem rworth_no {t : List AtomD} {n : Nat} {ts : List (Int × Int)} {k : Nat} (h : NoBad t n ts k) (hk : k < ts.length) (hb : badT t n ts[k] = true) : (!decide (0 ≤ idxT (badT t n) ts)) = false := by
  rw [idxT_at _ _ k hk (fun j h' => h j h' (by omega)) hb]; simp
set_option maxRecDepth 100000 in
set_option maxHeartbeats 8000000 in
theorem rworth_any (t : List AtomD) (ts : List (Int × Int)) (n : Nat) (b off cap : Nat) (a2 : Option Addr) (len2 cap2 : Nat) (w : World) (hn : n < t.length) (hlen : t.length ≤ 10000) (hR : w.rangeAt b off (atomsL t))
    (htn : t[n].tn = ts.length) (hts : TermsIn w t[n].ta ts) (htl : ts.length ≤ 10000) (h1 : t[n].num ≤ 9223372036854775807) (h2 : t[n].den ≤ 9223372036854775807) :
    Calls Tryd.prog 26 #[.agg #[.slice (some ⟨b, off, none⟩) t.length cap, .slice a2 len2 cap2], .int .i64 (n : Int)] w fun e w' => e = .returned (.bool (worthS t ts n)) ∧ Below w.heap.size w w' := by
  have HR := Lib.hid hR
  have HB : Hid (b < w.heap.size) := range_lt hR (by
    cases t with
    | nil => simp at hn
    | cons y r => simp [atomsL, atomL])
  have HW : Hid (worthS t ts n = (let a := t[n]; if a.tag < 0 ∨ 99 < a.tag then false
      else if 0 ≤ a.base ∧ a.base < 7 then decide (a.num = 1) && decide (a.den = 1) && decide (a.ten = 0) && decide (a.tag = 0) && decide (ts.length = 0)
      else decide (a.base = -1) && decide ((makeI a.num a.den a.ten).2 = 0) && decide ((makeI a.num a.den a.ten).1.1 ≠ 0) && decide (ts.length ≤ 9) && !decide (0 ≤ idxT (badT t n) ts))) := by
    show _ = _
    rw [worthS, List.getElem?_eq_getElem hn, Option.getD_some]
  have hV := atomD_range hR n hn
  have HI := Lib.hid hts
  clear hR hts
  generalize t[n] = x at hV HI htn h1 h2 HW
  obtain ⟨c0, c1, c2, c3, c4, metric, tag, base, num, den, ten, ta, tn, tc⟩ := x
  simp only at htn h1 h2 HW HI
  subst htn
  have HV : Hid (w.rangeAt b (off + n * 12) [.string c0, .string c1, .string c2, .string c3, .string c4, .bool metric, .int .i64 tag, .int .i64 base, .int .i64 num, .int .i64 den, .int .i64 ten, .slice ta ts.length tc]) := hV
  clear hV
  have HV2 : Hid ((w.alloc (.cells #[.slice (some ⟨b, off, none⟩) t.length cap, .slice a2 len2 cap2] 27)).rangeAt b (off + n * 12) [.string c0, .string c1, .string c2, .string c3, .string c4, .bool metric, .int .i64 tag, .int .i64 base, .int .i64 num, .int .i64 den, .int .i64 ten, .slice ta ts.length tc]) :=
    range_below HV.out ((Below.refl _ _).alloc (Nat.le_refl _) _) HB.out
  by_cases t0 : tag < 0
  · have HO : Hid (worthS t ts n = false) := by show _ = _; rw [HW.out]; simp [t0]
    go_enter Tryd.func26, Tryd.ntmps26
    go_wp2_with (first | (refine wpList_load_mid rfl 33 _ rfl b _ rfl _ _ HV2.out Tryd.underlying33 rfl size_Atom ?_) | fail)
    go_ret
    exact ⟨by rw [HO.out]; rfl, ((Below.refl _ _).alloc (Nat.le_refl _) _).alloc (by simp) _⟩
  have d0 : decide (tag < 0) = false := decide_eq_false t0
  by_cases t1 : 99 < tag
  · have HO : Hid (worthS t ts n = false) := by show _ = _; rw [HW.out]; simp [t1]
    go_enter Tryd.func26, Tryd.ntmps26
    go_wp2_with (first | (refine wpList_load_mid rfl 33 _ rfl b _ rfl _ _ HV2.out Tryd.underlying33 rfl size_Atom ?_) | fail)
    go_ret
    exact ⟨by rw [HO.out]; rfl, ((Below.refl _ _).alloc (Nat.le_refl _) _).alloc (by simp) _⟩
  have d1 : decide (99 < tag) = false := decide_eq_false t1
  have ht01 : ¬ (tag < 0 ∨ 99 < tag) := by omega
  by_cases hb : 0 ≤ base ∧ base < 7
  · obtain ⟨b0, b1⟩ := hb
    have hb : 0 ≤ base ∧ base < 7 := ⟨b0, b1⟩
    have e0 : decide (0 ≤ base) = true := decide_eq_true b0
    have e1 : decide (base ≤ 6) = true := decide_eq_true (by omega)
    have HB0 := Lib.hid hb
    have HT0 := Lib.hid ht01
    clear hb ht01
    by_cases k0 : num = 1
    case neg =>
      have j0 : (num == 1) = false := by simpa using k0
      have HO : Hid (worthS t ts n = false) := by show _ = _; rw [HW.out]; simp [HT0.out, HB0.out, k0]
      go_enter Tryd.func26, Tryd.ntmps26
      go_wp2_with (first | (refine wpList_load_mid rfl 33 _ rfl b _ rfl _ _ HV2.out Tryd.underlying33 rfl size_Atom ?_) | fail)
      go_ret
      exact ⟨by rw [HO.out]; rfl, ((Below.refl _ _).alloc (Nat.le_refl _) _).alloc (by simp) _⟩
    subst k0
    by_cases k1 : den = 1
    case neg =>
      have j1 : (den == 1) = false := by simpa using k1
      have HO : Hid (worthS t ts n = false) := by show _ = _; rw [HW.out]; simp [HT0.out, HB0.out, k1]
      go_enter Tryd.func26, Tryd.ntmps26
      go_wp2_with (first | (refine wpList_load_mid rfl 33 _ rfl b _ rfl _ _ HV2.out Tryd.underlying33 rfl size_Atom ?_) | fail)
      go_ret
      exact ⟨by rw [HO.out]; rfl, ((Below.refl _ _).alloc (Nat.le_refl _) _).alloc (by simp) _⟩
    subst k1
    by_cases k2 : ten = 0
    case neg =>
      have j2 : (ten == 0) = false := by simpa using k2
      have HO : Hid (worthS t ts n = false) := by show _ = _; rw [HW.out]; simp [HT0.out, HB0.out, k2]
      go_enter Tryd.func26, Tryd.ntmps26
      go_wp2_with (first | (refine wpList_load_mid rfl 33 _ rfl b _ rfl _ _ HV2.out Tryd.underlying33 rfl size_Atom ?_) | fail)
      go_ret
      exact ⟨by rw [HO.out]; rfl, ((Below.refl _ _).alloc (Nat.le_refl _) _).alloc (by simp) _⟩
    subst k2
    by_cases k3 : tag = 0
    case neg =>
      have j3 : (tag == 0) = false := by simpa using k3
      have HO : Hid (worthS t ts n = false) := by show _ = _; rw [HW.out]; simp [HT0.out, HB0.out, k3]
      go_enter Tryd.func26, Tryd.ntmps26
      go_wp2_with (first | (refine wpList_load_mid rfl 33 _ rfl b _ rfl _ _ HV2.out Tryd.underlying33 rfl size_Atom ?_) | fail)
      go_ret
      exact ⟨by rw [HO.out]; rfl, ((Below.refl _ _).alloc (Nat.le_refl _) _).alloc (by simp) _⟩
    subst k3
    by_cases k4 : ts.length = 0
    case neg =>
      have j4 : ((ts.length : Int) == 0) = false := by simp; simpa using k4
      have HO : Hid (worthS t ts n = false) := by show _ = _; rw [HW.out]; simp [HT0.out, HB0.out]; simpa using k4
      go_enter Tryd.func26, Tryd.ntmps26
      go_wp2_with (first | (refine wpList_load_mid rfl 33 _ rfl b _ rfl _ _ HV2.out Tryd.underlying33 rfl size_Atom ?_) | fail)
      go_ret
      exact ⟨by rw [HO.out]; rfl, ((Below.refl _ _).alloc (Nat.le_refl _) _).alloc (by simp) _⟩
    case pos =>
      have j4 : ((ts.length : Int) == 0) = true := by simp [k4]
      have HO : Hid (worthS t ts n = true) := by show _ = _; rw [HW.out]; simp [HT0.out, HB0.out]; simpa using k4
      go_enter Tryd.func26, Tryd.ntmps26
      go_wp2_with (first | (refine wpList_load_mid rfl 33 _ rfl b _ rfl _ _ HV2.out Tryd.underlying33 rfl size_Atom ?_) | fail)
      go_ret
      exact ⟨by rw [HO.out]; rfl, ((Below.refl _ _).alloc (Nat.le_refl _) _).alloc (by simp) _⟩
  · have hHB : Hid (¬ (0 ≤ base ∧ base < 7)) := hb
    have HT0 := Lib.hid ht01
    clear ht01
    obtain ⟨⟨⟨fa, fb, fc⟩, er⟩, hm⟩ : ∃ r, makeI num den ten = r := ⟨_, rfl⟩
    have HM := Lib.hid hm
    clear hm
    by_cases b0 : base = -1
    · subst b0
      clear hb
      by_cases r0 : er = 0
      case neg =>
        have r1 : (er == 0) = false := by simpa using r0
        have HO : Hid (worthS t ts n = false) := by show _ = _; rw [HW.out]; simp [HT0.out, HM.out, r0]
        go_enter Tryd.func26, Tryd.ntmps26
        go_wp2_with (first | (refine wpList_load_mid rfl 33 _ rfl b _ rfl _ _ HV2.out Tryd.underlying33 rfl size_Atom ?_) | (go_at_call 34; refine (rmake_any num den ten _ h1 h2).mono ?_; rintro e w2 ⟨rfl, hb2⟩; rw [HM.out]; simp only [gotV]; have HX := Lib.hid (blkAlloc (.cells #[.int .i64 fa, .int .i64 fb, .int .i64 fc, .int .i64 er] 77) (blkUnder (two_new w _ _ _ _).2 hb2)); have HY := Lib.hid (blkAlloc (.cells #[.int .i64 fa, .int .i64 fb, .int .i64 fc, .int .i64 er] 77) (blkUnder (two_new w _ _ _ _).1 hb2)); have g7 := cellB HX.out (j := 7) rfl; have g11 := cellB HX.out (j := 11) rfl; have gl : w.heap.size + 1 < w2.heap.size := (by have := hb2.size; simp at this; omega); have HB2 : Hid (Below w.heap.size w (w2.alloc (.cells #[.int .i64 fa, .int .i64 fb, .int .i64 fc, .int .i64 er] 77))) := (by have h0 : Below w.heap.size w w2 := (((Below.refl _ _).alloc (Nat.le_refl _) _).alloc (by simp) _).trans (hb2.mono (by simp; omega)); exact h0.alloc h0.size _); clear hb2))
        go_ret
        exact ⟨by rw [HO.out]; rfl, HB2.out⟩
      subst r0
      by_cases r2 : fa = 0
      case pos =>
        subst r2
        have HO : Hid (worthS t ts n = false) := by show _ = _; rw [HW.out]; simp [HT0.out, HM.out]
        go_enter Tryd.func26, Tryd.ntmps26
        go_wp2_with (first | (refine wpList_load_mid rfl 33 _ rfl b _ rfl _ _ HV2.out Tryd.underlying33 rfl size_Atom ?_) | (go_at_call 34; refine (rmake_any num den ten _ h1 h2).mono ?_; rintro e w2 ⟨rfl, hb2⟩; rw [HM.out]; simp only [gotV]; have HX := Lib.hid (blkAlloc (.cells #[.int .i64 0, .int .i64 fb, .int .i64 fc, .int .i64 0] 77) (blkUnder (two_new w _ _ _ _).2 hb2)); have HY := Lib.hid (blkAlloc (.cells #[.int .i64 0, .int .i64 fb, .int .i64 fc, .int .i64 0] 77) (blkUnder (two_new w _ _ _ _).1 hb2)); have g7 := cellB HX.out (j := 7) rfl; have g11 := cellB HX.out (j := 11) rfl; have gl : w.heap.size + 1 < w2.heap.size := (by have := hb2.size; simp at this; omega); have HB2 : Hid (Below w.heap.size w (w2.alloc (.cells #[.int .i64 0, .int .i64 fb, .int .i64 fc, .int .i64 0] 77))) := (by have h0 : Below w.heap.size w w2 := (((Below.refl _ _).alloc (Nat.le_refl _) _).alloc (by simp) _).trans (hb2.mono (by simp; omega)); exact h0.alloc h0.size _); clear hb2))
        go_ret
        exact ⟨by rw [HO.out]; rfl, HB2.out⟩
      have r3 : (fa == 0) = false := by simpa using r2
      by_cases r4 : ts.length ≤ 9
      case neg =>
        have r5 : decide (9 < (ts.length : Int)) = true := by simp; omega
        have HO : Hid (worthS t ts n = false) := by show _ = _; rw [HW.out]; simp [HT0.out, HM.out, r4]
        go_enter Tryd.func26, Tryd.ntmps26
        go_wp2_with (first | (refine wpList_load_mid rfl 33 _ rfl b _ rfl _ _ HV2.out Tryd.underlying33 rfl size_Atom ?_) | (go_at_call 34; refine (rmake_any num den ten _ h1 h2).mono ?_; rintro e w2 ⟨rfl, hb2⟩; rw [HM.out]; simp only [gotV]; have HX := Lib.hid (blkAlloc (.cells #[.int .i64 fa, .int .i64 fb, .int .i64 fc, .int .i64 0] 77) (blkUnder (two_new w _ _ _ _).2 hb2)); have HY := Lib.hid (blkAlloc (.cells #[.int .i64 fa, .int .i64 fb, .int .i64 fc, .int .i64 0] 77) (blkUnder (two_new w _ _ _ _).1 hb2)); have g7 := cellB HX.out (j := 7) rfl; have g11 := cellB HX.out (j := 11) rfl; have gl : w.heap.size + 1 < w2.heap.size := (by have := hb2.size; simp at this; omega); have HB2 : Hid (Below w.heap.size w (w2.alloc (.cells #[.int .i64 fa, .int .i64 fb, .int .i64 fc, .int .i64 0] 77))) := (by have h0 : Below w.heap.size w w2 := (((Below.refl _ _).alloc (Nat.le_refl _) _).alloc (by simp) _).trans (hb2.mono (by simp; omega)); exact h0.alloc h0.size _); clear hb2))
        go_ret
        exact ⟨by rw [HO.out]; rfl, HB2.out⟩
      case pos =>
        have r5 : decide (9 < (ts.length : Int)) = false := by simp; omega
        have HO : Hid (worthS t ts n = (!decide (0 ≤ idxT (badT t n) ts))) := by show _ = _; rw [HW.out]; simp [HT0.out, HM.out, r4, r2]
        go_enter Tryd.func26, Tryd.ntmps26
        go_wp2_with (first | (refine wpList_load_mid rfl 33 _ rfl b _ rfl _ _ HV2.out Tryd.underlying33 rfl size_Atom ?_) | (go_at_call 34; refine (rmake_any num den ten _ h1 h2).mono ?_; rintro e w2 ⟨rfl, hb2⟩; rw [HM.out]; simp only [gotV]; have HX := Lib.hid (blkAlloc (.cells #[.int .i64 fa, .int .i64 fb, .int .i64 fc, .int .i64 0] 77) (blkUnder (two_new w _ _ _ _).2 hb2)); have HY := Lib.hid (blkAlloc (.cells #[.int .i64 fa, .int .i64 fb, .int .i64 fc, .int .i64 0] 77) (blkUnder (two_new w _ _ _ _).1 hb2)); have g7 := cellB HX.out (j := 7) rfl; have g11 := cellB HX.out (j := 11) rfl; have gl : w.heap.size + 1 < w2.heap.size := (by have := hb2.size; simp at this; omega); have HB2 : Hid (Below w.heap.size w (w2.alloc (.cells #[.int .i64 fa, .int .i64 fb, .int .i64 fc, .int .i64 0] 77))) := (by have h0 : Below w.heap.size w w2 := (((Below.refl _ _).alloc (Nat.le_refl _) _).alloc (by simp) _).trans (hb2.mono (by simp; omega)); exact h0.alloc h0.size _); clear hb2))
        clear g7 g11
        go_loopw [7] (fun j wr => ∃ k : Nat, k ≤ ts.length ∧ j = .int .i64 (k : Int) ∧ NoBad t n ts k ∧ Below (w2.alloc (.cells #[.int .i64 fa, .int .i64 fb, .int .i64 fc, .int .i64 0] 77)).heap.size (w2.alloc (.cells #[.int .i64 fa, .int .i64 fb, .int .i64 fc, .int .i64 0] 77)) wr) (fun j _ => ts.length - (intOf j).toNat)
        case atStart => exact ⟨0, by omega, rfl, fun j h => by omega, Below.refl _ _⟩
        case round =>
          obtain ⟨k, hk, rfl, hN, hbw⟩ := hrel
          have HN := Lib.hid hN
          have HBW := Lib.hid (HB2.out.trans (hbw.mono HB2.out.size))
          have HXW := Lib.hid (blkUnder HX.out hbw)
          have HYW := Lib.hid (blkUnder HY.out hbw)
          have HBV := Lib.hid hbw
          have g11 := cellB HXW.out (j := 11) rfl
          have gT := cellB HYW.out (j := 0) rfl
          have gl2 : w.heap.size + 1 < wr.heap.size := (Array.getElem?_eq_some_iff.1 HXW.out).1
          have gl3 : w.heap.size < wr.heap.size := by omega
          clear hN hbw
          by_cases hlt : k < ts.length
          · have hltd : decide ((k : Int) < (ts.length : Int)) = true := by simp; omega
            obtain ⟨tb, toff, hta, hr, hlt2⟩ : ∃ tb toff, ta = some ⟨tb, toff, none⟩ ∧ w.rangeAt tb toff (termsL ts) ∧ tb < w.heap.size := by
              rcases HI.out with rfl | h
              · simp at hlt
              · exact h
            subst hta
            have HTV := Lib.hid (range_below (term_range hr k hlt) HBW.out hlt2)
            obtain ⟨x, hx⟩ : ∃ x, ts[k] = x := ⟨_, rfl⟩
            rw [hx] at HTV
            obtain ⟨xa, xe⟩ := x
            have HTW : Hid (wr.rangeAt tb (toff + k * 2) [.int .i64 xa, .int .i64 xe]) := HTV
            clear HTV
            have HXX := Lib.hid hx
            have HKL := Lib.hid hlt
            clear hx hr
            by_cases y1 : xa < 0
            · have HC : Hid (badT t n (xa, xe) = true) := by show _ = _; simp [badT, y1]
              have x1 : decide (xa < 0) = true := decide_eq_true y1
              go_wp2_with (first | (refine wpList_load_mid rfl 37 _ rfl tb _ rfl _ _ HTW.out Tryd.underlying37 rfl size_Term ?_) | fail)
              go_ret
              exact ⟨by rw [HO.out, rworth_no HN.out HKL.out (by rw [HXX.out, HC.out])]; rfl, HBW.out.alloc HBW.out.size _⟩
            have x1 : decide (xa < 0) = false := decide_eq_false y1
            by_cases y2 : (n : Int) ≤ xa
            · have HC : Hid (badT t n (xa, xe) = true) := by show _ = _; simp [badT, y2]
              have x2 : decide ((n : Int) ≤ xa) = true := decide_eq_true y2
              go_wp2_with (first | (refine wpList_load_mid rfl 37 _ rfl tb _ rfl _ _ HTW.out Tryd.underlying37 rfl size_Term ?_) | fail)
              go_ret
              exact ⟨by rw [HO.out, rworth_no HN.out HKL.out (by rw [HXX.out, HC.out])]; rfl, HBW.out.alloc HBW.out.size _⟩
            have x2 : decide ((n : Int) ≤ xa) = false := decide_eq_false y2
            by_cases y3 : xe < -9
            · have HC : Hid (badT t n (xa, xe) = true) := by show _ = _; simp [badT, y3]
              have x3 : decide (xe < -9) = true := decide_eq_true y3
              go_wp2_with (first | (refine wpList_load_mid rfl 37 _ rfl tb _ rfl _ _ HTW.out Tryd.underlying37 rfl size_Term ?_) | fail)
              go_ret
              exact ⟨by rw [HO.out, rworth_no HN.out HKL.out (by rw [HXX.out, HC.out])]; rfl, HBW.out.alloc HBW.out.size _⟩
            have x3 : decide (xe < -9) = false := decide_eq_false y3
            by_cases y4 : 9 < xe
            · have HC : Hid (badT t n (xa, xe) = true) := by show _ = _; simp [badT, y4]
              have x4 : decide (9 < xe) = true := decide_eq_true y4
              go_wp2_with (first | (refine wpList_load_mid rfl 37 _ rfl tb _ rfl _ _ HTW.out Tryd.underlying37 rfl size_Term ?_) | fail)
              go_ret
              exact ⟨by rw [HO.out, rworth_no HN.out HKL.out (by rw [HXX.out, HC.out])]; rfl, HBW.out.alloc HBW.out.size _⟩
            have x4 : decide (9 < xe) = false := decide_eq_false y4
            by_cases y5 : xe = 0
            · have HC : Hid (badT t n (xa, xe) = true) := by show _ = _; simp [badT, y5]
              subst y5
              go_wp2_with (first | (refine wpList_load_mid rfl 37 _ rfl tb _ rfl _ _ HTW.out Tryd.underlying37 rfl size_Term ?_) | fail)
              go_ret
              exact ⟨by rw [HO.out, rworth_no HN.out HKL.out (by rw [HXX.out, HC.out])]; rfl, HBW.out.alloc HBW.out.size _⟩
            have x5 : (xe == 0) = false := by simpa using y5
            obtain ⟨q, rfl⟩ : ∃ q : Nat, xa = q := ⟨xa.toNat, by omega⟩
            have hq : q < t.length := by omega
            have hc : wr.cell? ⟨b, off + q * 12 + 6, none⟩ = some (.int .i64 t[q].tag) := range_below HR.out HBW.out HB.out |> fun h => atomD_range h q hq 6 _ rfl
            have hc2 := cellAlloc (.cells #[.int .i64 (q : Int), .int .i64 xe] 37) hc
            have HQ : Hid (badT t n ((q : Int), xe) = decide (t[q].tag ≠ 0)) := by
              show _ = _
              have x1' : decide ((q : Int) < 0) = false := x1
              have x2' : decide ((n : Int) ≤ q) = false := decide_eq_false y2
              simp only [badT, x1', x2', decide_eq_false y3, decide_eq_false y4, decide_eq_false y5, Bool.false_or, Int.toNat_natCast, List.getElem?_eq_getElem hq, Option.getD_some]
            generalize t[q].tag = g at hc hc2 HQ
            have hq2 : q < 10000 := by omega
            have hqi : (q : Int) < (t.length : Int) := by omega
            have gT2 := cellAlloc (.cells #[.int .i64 (q : Int), .int .i64 xe] 37) gT
            by_cases hg : g = 0
            · subst hg
              have HC : Hid (badT t n ((q : Int), xe) = false) := by show _ = _; rw [HQ.out]; simp
              go_wp2_with (first | (refine wpList_load_mid rfl 37 _ rfl tb _ rfl _ _ HTW.out Tryd.underlying37 rfl size_Term ?_) | fail)
              go_roundw
              case rel =>
                refine ⟨k + 1, by omega, by go_num, fun j hj h' => ?_, HBV.out.alloc HBV.out.size _⟩
                by_cases hjk : j < k
                · exact HN.out j hjk h'
                · have : j = k := by omega
                  subst this
                  rw [HXX.out, HC.out]
              case measure => simp [intOf]; omega
            · have hgb : (g != 0) = true := by simpa using hg
              have hgc : (g == 0) = false := by simpa using hg
              have HC : Hid (badT t n ((q : Int), xe) = true) := by show _ = _; rw [HQ.out]; simpa using hg
              go_wp2_with (first | (refine wpList_load_mid rfl 37 _ rfl tb _ rfl _ _ HTW.out Tryd.underlying37 rfl size_Term ?_) | fail)
              go_ret
              exact ⟨by rw [HO.out, rworth_no HN.out HKL.out (by rw [HXX.out, HC.out])]; rfl, HBW.out.alloc HBW.out.size _⟩
          · have hltd : decide ((k : Int) < (ts.length : Int)) = false := by simp; omega
            have hk' : k = ts.length := by omega
            subst hk'
            go_wp2_with fail
            go_ret
            exact ⟨by rw [HO.out, rworth_yes HN.out]; rfl, HBW.out⟩
    · have b1 : (base == -1) = false := by simpa using b0
      by_cases b2 : 0 ≤ base
      · have b3 : ¬ base < 7 := fun h => hb ⟨b2, h⟩
        have b4 : decide (base ≤ 6) = false := decide_eq_false (by omega)
        have b5 : decide (0 ≤ base) = true := decide_eq_true b2
        clear hb
        have HO : Hid (worthS t ts n = false) := by show _ = _; rw [HW.out]; simp [HT0.out, HM.out, b0, b3]
        go_enter Tryd.func26, Tryd.ntmps26
        go_wp2_with (first | (refine wpList_load_mid rfl 33 _ rfl b _ rfl _ _ HV2.out Tryd.underlying33 rfl size_Atom ?_) | (go_at_call 34; refine (rmake_any num den ten _ h1 h2).mono ?_; rintro e w2 ⟨rfl, hb2⟩; rw [HM.out]; simp only [gotV]; have HX := Lib.hid (blkAlloc (.cells #[.int .i64 fa, .int .i64 fb, .int .i64 fc, .int .i64 er] 77) (blkUnder (two_new w _ _ _ _).2 hb2)); have HY := Lib.hid (blkAlloc (.cells #[.int .i64 fa, .int .i64 fb, .int .i64 fc, .int .i64 er] 77) (blkUnder (two_new w _ _ _ _).1 hb2)); have g7 := cellB HX.out (j := 7) rfl; have g11 := cellB HX.out (j := 11) rfl; have gl : w.heap.size + 1 < w2.heap.size := (by have := hb2.size; simp at this; omega); have HB2 : Hid (Below w.heap.size w (w2.alloc (.cells #[.int .i64 fa, .int .i64 fb, .int .i64 fc, .int .i64 er] 77))) := (by have h0 : Below w.heap.size w w2 := (((Below.refl _ _).alloc (Nat.le_refl _) _).alloc (by simp) _).trans (hb2.mono (by simp; omega)); exact h0.alloc h0.size _); clear hb2))
        go_ret
        exact ⟨by rw [HO.out]; rfl, HB2.out⟩
      · have b5 : decide (0 ≤ base) = false := decide_eq_false b2
        clear hb
        have HO : Hid (worthS t ts n = false) := by show _ = _; rw [HW.out]; simp [HT0.out, HM.out, b0, b2]
        go_enter Tryd.func26, Tryd.ntmps26
        go_wp2_with (first | (refine wpList_load_mid rfl 33 _ rfl b _ rfl _ _ HV2.out Tryd.underlying33 rfl size_Atom ?_) | (go_at_call 34; refine (rmake_any num den ten _ h1 h2).mono ?_; rintro e w2 ⟨rfl, hb2⟩; rw [HM.out]; simp only [gotV]; have HX := Lib.hid (blkAlloc (.cells #[.int .i64 fa, .int .i64 fb, .int .i64 fc, .int .i64 er] 77) (blkUnder (two_new w _ _ _ _).2 hb2)); have HY := Lib.hid (blkAlloc (.cells #[.int .i64 fa, .int .i64 fb, .int .i64 fc, .int .i64 er] 77) (blkUnder (two_new w _ _ _ _).1 hb2)); have g7 := cellB HX.out (j := 7) rfl; have g11 := cellB HX.out (j := 11) rfl; have gl : w.heap.size + 1 < w2.heap.size := (by have := hb2.size; simp at this; omega); have HB2 : Hid (Below w.heap.size w (w2.alloc (.cells #[.int .i64 fa, .int .i64 fb, .int .i64 fc, .int .i64 er] 77))) := (by have h0 : Below w.heap.size w w2 := (((Below.refl _ _).alloc (Nat.le_refl _) _).alloc (by simp) _).trans (hb2.mono (by simp; omega)); exact h0.alloc h0.size _); clear hb2))
        go_ret
        exact ⟨by rw [HO.out]; rfl, HB2.out⟩
end Go.Proofs.YtiinppicdhidhaaDoor
