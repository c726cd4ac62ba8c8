/-
  atoms.worth: whether the worth of an atom may be.
-/
import Derived.Test.YtiinppicdhidhaaDoorWo
set_option linter.unusedVariables false
set_option linter.unusedSimpArgs false
namespace Go.Proofs.YtiinppicdhidhaaDoor
open Go.RowKit
open Go.Proofs

set_option maxRecDepth 100000 in
set_option maxHeartbeats 4000000 in
theorem contains_term (ts : List (Int × Int)) (ta : Option Addr) (tc : Nat) (n : Nat) (Ab Tb b off cap : Nat) (t : List AtomD) (w : World) (hA : w.cell? ⟨Ab, 0, none⟩ = some (.int .i64 (n : Int))) (hT : w.cell? ⟨Tb, 0, none⟩ = some (.slice (some ⟨b, off, none⟩) t.length cap))
    (hR : w.rangeAt b off (atomsL t)) (hn : n < t.length) (hlen : t.length ≤ 10000) (hts : TermsIn w ta ts) (htl : ts.length ≤ 10000) :
    Calls Tryd.prog 32 #[.slice ta ts.length tc, .func (.func 31) #[] #[.pointer (some ⟨Ab, 0, none⟩), .pointer (some ⟨Tb, 0, none⟩)]] w fun e w' => e = .returned (.bool (decide (0 ≤ idxT (badT t n) ts))) ∧ Below w.heap.size w w' := by
  have HR := Lib.hid hR
  have HT := Lib.hid hts
  have HA := Lib.hid hA
  have HTb := Lib.hid hT
  clear hR hts hA hT
  go_enter Tryd.func32, Tryd.ntmps32
  go_wp2_with (first | (go_at_call 41; refine (index_term ts ta tc n Ab Tb b off cap t _ HA.out HTb.out HR.out hn hlen HT.out htl).mono ?_; rintro e w1 ⟨rfl, hb1⟩; have HB1 := Lib.hid hb1; clear hb1) | go_in)
  go_ret
  exact ⟨rfl, HB1.out⟩

theorem w3_c (w : World) (A B C : Array Value) (ta tb tc : TypeId) (j : Nat) (v : Value) (h : C[j]? = some v) : (((w.alloc (.cells A ta)).alloc (.cells B tb)).alloc (.cells C tc)).cell? ⟨w.heap.size + 1 + 1, j, none⟩ = some v := by
  have := cellNew ((w.alloc (.cells A ta)).alloc (.cells B tb)) C tc j v h
  simpa using this
theorem w3_b (w : World) (A B C : Array Value) (ta tb tc : TypeId) (j : Nat) (v : Value) (h : B[j]? = some v) : (((w.alloc (.cells A ta)).alloc (.cells B tb)).alloc (.cells C tc)).cell? ⟨w.heap.size + 1, j, none⟩ = some v := by
  have := cellNew (w.alloc (.cells A ta)) B tb j v h
  exact cellAlloc _ (by simpa using this)
theorem w3_a (w : World) (A B C : Array Value) (ta tb tc : TypeId) (j : Nat) (v : Value) (h : A[j]? = some v) : (((w.alloc (.cells A ta)).alloc (.cells B tb)).alloc (.cells C tc)).cell? ⟨w.heap.size, j, none⟩ = some v :=
  cellAlloc _ (cellAlloc _ (cellNew w A ta j v h))
theorem w3_below (w : World) (A B C : Array Value) (ta tb tc : TypeId) : Below w.heap.size w (((w.alloc (.cells A ta)).alloc (.cells B tb)).alloc (.cells C tc)) := (((Below.refl _ _).alloc (Nat.le_refl _) _).alloc (by simp) _).alloc (by simp; omega) _
/-- Whether the worth of atom n may be. -/
def worthS (t : List AtomD) (ts : List (Int × Int)) (n : Nat) : Bool :=
  let a := t[n]?.getD default
  if a.tag < 0 ∨ 99 < a.tag then false
  else if 0 ≤ a.base ∧ a.base < 7 then decide (a.num = 1) && decide (a.den = 1) && decide (a.ten = 0) && decide (a.tag = 0) && decide (ts.length = 0)
  else decide (a.base = -1) && decide ((makeI a.num a.den a.ten).2 = 0) && decide ((makeI a.num a.den a.ten).1.1 ≠ 0) && decide (ts.length ≤ 9) && !decide (0 ≤ idxT (badT t n) ts)
theorem tens_below {w w' : World} (h : TensAt w) (hb : Below w.heap.size w w') : TensAt w' := ⟨cell_under h.1 hb, cell_under h.2 hb⟩
theorem terms_below {w w' : World} {a : Option Addr} {ts : List (Int × Int)} (h : TermsIn w a ts) (hb : Below w.heap.size w w') : TermsIn w' a ts := by
  rcases h with h | ⟨b, off, h1, h2, h3⟩
  · exact .inl h
  · exact .inr ⟨b, off, h1, range_below h2 hb h3, Nat.lt_of_lt_of_le h3 hb.size⟩
set_option maxRecDepth 100000 in
set_option maxHeartbeats 8000000 in
theorem worth_any (t : List AtomD) (ts : List (Int × Int)) (n : Nat) (b off cap : Nat) (a2 : Option Addr) (len2 cap2 : Nat) (w : World) (hn : n < t.length) (hlen : t.length ≤ 10000) (hR : w.rangeAt b off (atomsL t)) (hT : TensAt w)
    (htn : t[n].tn = ts.length) (hts : TermsIn w t[n].ta ts) (htl : ts.length ≤ 10000) (h1 : t[n].num ≤ 9223372036854775807) (h2 : t[n].den ≤ 9223372036854775807) :
    Calls Tryd.prog 24 #[.agg #[.slice (some ⟨b, off, none⟩) t.length cap, .slice a2 len2 cap2], .int .i64 (n : Int)] w fun e w' => e = .returned (.bool (worthS t ts n)) ∧ Below w.heap.size w w' := by
  have HR := Lib.hid hR
  have HB : Hid (b < w.heap.size) := range_lt hR (by
    cases t with
    | nil => simp at hn
    | cons y r => simp [atomsL, atomL])
  have HW : Hid (worthS t ts n = (let a := t[n]; if a.tag < 0 ∨ 99 < a.tag then false
      else if 0 ≤ a.base ∧ a.base < 7 then decide (a.num = 1) && decide (a.den = 1) && decide (a.ten = 0) && decide (a.tag = 0) && decide (ts.length = 0)
      else decide (a.base = -1) && decide ((makeI a.num a.den a.ten).2 = 0) && decide ((makeI a.num a.den a.ten).1.1 ≠ 0) && decide (ts.length ≤ 9) && !decide (0 ≤ idxT (badT t n) ts))) := by
    show _ = _
    rw [worthS, List.getElem?_eq_getElem hn, Option.getD_some]
  have hV := atomD_range hR n hn
  have HI := Lib.hid hts
  have HT := Lib.hid hT
  clear hR hts hT
  generalize t[n] = x at hV HI htn h1 h2 HW
  obtain ⟨c0, c1, c2, c3, c4, metric, tag, base, num, den, ten, ta, tn, tc⟩ := x
  simp only at htn h1 h2 HW HI
  subst htn
  have HV : Hid (w.rangeAt b (off + n * 12) [.string c0, .string c1, .string c2, .string c3, .string c4, .bool metric, .int .i64 tag, .int .i64 base, .int .i64 num, .int .i64 den, .int .i64 ten, .slice ta ts.length tc]) := hV
  clear hV
  have HV2 : Hid (((w.alloc (.cells #[.slice (some ⟨b, off, none⟩) t.length cap, .slice a2 len2 cap2] 27)).alloc (.cells #[.int .i64 (n : Int)] 3)).rangeAt b (off + n * 12) [.string c0, .string c1, .string c2, .string c3, .string c4, .bool metric, .int .i64 tag, .int .i64 base, .int .i64 num, .int .i64 den, .int .i64 ten, .slice ta ts.length tc]) :=
    range_below HV.out (((Below.refl _ _).alloc (Nat.le_refl _) _).alloc (by simp) _) HB.out
  by_cases t0 : tag < 0
  · have HO : Hid (worthS t ts n = false) := by show _ = _; rw [HW.out]; simp [t0]
    go_enter Tryd.func24, Tryd.ntmps24
    go_wp2_with (first | (refine wpList_load_mid rfl 33 _ rfl b _ rfl _ _ HV2.out Tryd.underlying33 rfl size_Atom ?_) | go_in)
    go_ret
    exact ⟨by rw [HO.out]; rfl, (((Below.refl _ _).alloc (Nat.le_refl _) _).alloc (by simp) _).alloc (by simp; omega) _⟩
  have d0 : decide (tag < 0) = false := decide_eq_false t0
  by_cases t1 : 99 < tag
  · have HO : Hid (worthS t ts n = false) := by show _ = _; rw [HW.out]; simp [t1]
    go_enter Tryd.func24, Tryd.ntmps24
    go_wp2_with (first | (refine wpList_load_mid rfl 33 _ rfl b _ rfl _ _ HV2.out Tryd.underlying33 rfl size_Atom ?_) | go_in)
    go_ret
    exact ⟨by rw [HO.out]; rfl, (((Below.refl _ _).alloc (Nat.le_refl _) _).alloc (by simp) _).alloc (by simp; omega) _⟩
  have d1 : decide (99 < tag) = false := decide_eq_false t1
  have ht01 : ¬ (tag < 0 ∨ 99 < tag) := by omega
  by_cases hb : 0 ≤ base ∧ base < 7
  · obtain ⟨b0, b1⟩ := hb
    have hb : 0 ≤ base ∧ base < 7 := ⟨b0, b1⟩
    have e0 : decide (0 ≤ base) = true := decide_eq_true b0
    have e1 : decide (base < 7) = true := decide_eq_true b1
    have HB0 := Lib.hid hb
    have HT0 := Lib.hid ht01
    clear hb ht01
    by_cases k0 : num = 1
    case neg =>
      have j0 : (num == 1) = false := by simpa using k0
      have HO : Hid (worthS t ts n = false) := by show _ = _; rw [HW.out]; simp [HT0.out, HB0.out, k0]
      go_enter Tryd.func24, Tryd.ntmps24
      go_wp2_with (first | (refine wpList_load_mid rfl 33 _ rfl b _ rfl _ _ HV2.out Tryd.underlying33 rfl size_Atom ?_) | go_in)
      go_ret
      exact ⟨by rw [HO.out]; rfl, (((Below.refl _ _).alloc (Nat.le_refl _) _).alloc (by simp) _).alloc (by simp; omega) _⟩
    subst k0
    by_cases k1 : den = 1
    case neg =>
      have j1 : (den == 1) = false := by simpa using k1
      have HO : Hid (worthS t ts n = false) := by show _ = _; rw [HW.out]; simp [HT0.out, HB0.out, k1]
      go_enter Tryd.func24, Tryd.ntmps24
      go_wp2_with (first | (refine wpList_load_mid rfl 33 _ rfl b _ rfl _ _ HV2.out Tryd.underlying33 rfl size_Atom ?_) | go_in)
      go_ret
      exact ⟨by rw [HO.out]; rfl, (((Below.refl _ _).alloc (Nat.le_refl _) _).alloc (by simp) _).alloc (by simp; omega) _⟩
    subst k1
    by_cases k2 : ten = 0
    case neg =>
      have j2 : (ten == 0) = false := by simpa using k2
      have HO : Hid (worthS t ts n = false) := by show _ = _; rw [HW.out]; simp [HT0.out, HB0.out, k2]
      go_enter Tryd.func24, Tryd.ntmps24
      go_wp2_with (first | (refine wpList_load_mid rfl 33 _ rfl b _ rfl _ _ HV2.out Tryd.underlying33 rfl size_Atom ?_) | go_in)
      go_ret
      exact ⟨by rw [HO.out]; rfl, (((Below.refl _ _).alloc (Nat.le_refl _) _).alloc (by simp) _).alloc (by simp; omega) _⟩
    subst k2
    by_cases k3 : tag = 0
    case neg =>
      have j3 : (tag == 0) = false := by simpa using k3
      have HO : Hid (worthS t ts n = false) := by show _ = _; rw [HW.out]; simp [HT0.out, HB0.out, k3]
      go_enter Tryd.func24, Tryd.ntmps24
      go_wp2_with (first | (refine wpList_load_mid rfl 33 _ rfl b _ rfl _ _ HV2.out Tryd.underlying33 rfl size_Atom ?_) | go_in)
      go_ret
      exact ⟨by rw [HO.out]; rfl, (((Below.refl _ _).alloc (Nat.le_refl _) _).alloc (by simp) _).alloc (by simp; omega) _⟩
    subst k3
    by_cases k4 : ts.length = 0
    case neg =>
      have j4 : ((ts.length : Int) == 0) = false := by simp; simpa using k4
      have HO : Hid (worthS t ts n = false) := by show _ = _; rw [HW.out]; simp [HT0.out, HB0.out]; simpa using k4
      go_enter Tryd.func24, Tryd.ntmps24
      go_wp2_with (first | (refine wpList_load_mid rfl 33 _ rfl b _ rfl _ _ HV2.out Tryd.underlying33 rfl size_Atom ?_) | go_in)
      go_ret
      exact ⟨by rw [HO.out]; rfl, (((Below.refl _ _).alloc (Nat.le_refl _) _).alloc (by simp) _).alloc (by simp; omega) _⟩
    case pos =>
      have j4 : ((ts.length : Int) == 0) = true := by simp [k4]
      have HO : Hid (worthS t ts n = true) := by show _ = _; rw [HW.out]; simp [HT0.out, HB0.out]; simpa using k4
      go_enter Tryd.func24, Tryd.ntmps24
      go_wp2_with (first | (refine wpList_load_mid rfl 33 _ rfl b _ rfl _ _ HV2.out Tryd.underlying33 rfl size_Atom ?_) | go_in)
      go_ret
      exact ⟨by rw [HO.out]; rfl, (((Below.refl _ _).alloc (Nat.le_refl _) _).alloc (by simp) _).alloc (by simp; omega) _⟩
  · have hHB : Hid (¬ (0 ≤ base ∧ base < 7)) := hb
    have HT0 := Lib.hid ht01
    clear ht01
    obtain ⟨⟨⟨fa, fb, fc⟩, er⟩, hm⟩ : ∃ r, makeI num den ten = r := ⟨_, rfl⟩
    have HM := Lib.hid hm
    clear hm
    by_cases b0 : base = -1
    · subst b0
      clear hb
      by_cases r0 : er = 0
      case neg =>
        have r1 : (er == 0) = false := by simpa using r0
        have HO : Hid (worthS t ts n = false) := by show _ = _; rw [HW.out]; simp [HT0.out, HM.out, r0]
        go_enter Tryd.func24, Tryd.ntmps24
        go_wp2_with (first | (refine wpList_load_mid rfl 33 _ rfl b _ rfl _ _ HV2.out Tryd.underlying33 rfl size_Atom ?_) | (go_at_call 30; refine (Make_any num den ten _ (tens_below HT.out (w3_below _ _ _ _ _ _ _)) h1 h2).mono ?_; rintro e w2 ⟨rfl, hb2⟩; rw [HM.out]; simp only [fracV]; have g7 := cellAlloc (.cells #[.int .i64 fa, .int .i64 fb, .int .i64 fc] 70) (cell_under (w3_c w _ _ _ _ _ _ 7 _ rfl) hb2); have g11 := cellAlloc (.cells #[.int .i64 fa, .int .i64 fb, .int .i64 fc] 70) (cell_under (w3_c w _ _ _ _ _ _ 11 _ rfl) hb2); have gA := Lib.hid (cellAlloc (.cells #[.int .i64 fa, .int .i64 fb, .int .i64 fc] 70) (cell_under (w3_b w _ _ _ _ _ _ 0 _ rfl) hb2)); have gT := Lib.hid (cellAlloc (.cells #[.int .i64 fa, .int .i64 fb, .int .i64 fc] 70) (cell_under (w3_a w _ _ _ _ _ _ 0 _ rfl) hb2)); have HB2 : Hid (Below w.heap.size w (w2.alloc (.cells #[.int .i64 fa, .int .i64 fb, .int .i64 fc] 70))) := ((w3_below _ _ _ _ _ _ _).trans (hb2.mono (by simp; omega))).alloc (by have := hb2.size; simp at this; omega) _; clear hb2) | (go_at_call 32; refine (contains_term ts ta tc n _ _ b off cap t _ gA.out gT.out (range_below HR.out HB2.out HB.out) hn hlen (terms_below HI.out HB2.out) htl).mono ?_; rintro e w3 ⟨rfl, hb3⟩; have HB3 := Lib.hid hb3; clear hb3) | go_in)
        go_ret
        exact ⟨by rw [HO.out]; rfl, HB2.out⟩
      subst r0
      by_cases r2 : fa = 0
      case pos =>
        subst r2
        have HO : Hid (worthS t ts n = false) := by show _ = _; rw [HW.out]; simp [HT0.out, HM.out]
        go_enter Tryd.func24, Tryd.ntmps24
        go_wp2_with (first | (refine wpList_load_mid rfl 33 _ rfl b _ rfl _ _ HV2.out Tryd.underlying33 rfl size_Atom ?_) | (go_at_call 30; refine (Make_any num den ten _ (tens_below HT.out (w3_below _ _ _ _ _ _ _)) h1 h2).mono ?_; rintro e w2 ⟨rfl, hb2⟩; rw [HM.out]; simp only [fracV]; have g7 := cellAlloc (.cells #[.int .i64 0, .int .i64 fb, .int .i64 fc] 70) (cell_under (w3_c w _ _ _ _ _ _ 7 _ rfl) hb2); have g11 := cellAlloc (.cells #[.int .i64 0, .int .i64 fb, .int .i64 fc] 70) (cell_under (w3_c w _ _ _ _ _ _ 11 _ rfl) hb2); have gA := Lib.hid (cellAlloc (.cells #[.int .i64 0, .int .i64 fb, .int .i64 fc] 70) (cell_under (w3_b w _ _ _ _ _ _ 0 _ rfl) hb2)); have gT := Lib.hid (cellAlloc (.cells #[.int .i64 0, .int .i64 fb, .int .i64 fc] 70) (cell_under (w3_a w _ _ _ _ _ _ 0 _ rfl) hb2)); have HB2 : Hid (Below w.heap.size w (w2.alloc (.cells #[.int .i64 0, .int .i64 fb, .int .i64 fc] 70))) := ((w3_below _ _ _ _ _ _ _).trans (hb2.mono (by simp; omega))).alloc (by have := hb2.size; simp at this; omega) _; clear hb2) | (go_at_call 32; refine (contains_term ts ta tc n _ _ b off cap t _ gA.out gT.out (range_below HR.out HB2.out HB.out) hn hlen (terms_below HI.out HB2.out) htl).mono ?_; rintro e w3 ⟨rfl, hb3⟩; have HB3 := Lib.hid hb3; clear hb3) | go_in)
        go_ret
        exact ⟨by rw [HO.out]; rfl, HB2.out⟩
      have r3 : (fa != 0) = true := by simpa using r2
      by_cases r4 : ts.length ≤ 9
      case neg =>
        have r5 : decide ((ts.length : Int) ≤ 9) = false := by simp; omega
        have HO : Hid (worthS t ts n = false) := by show _ = _; rw [HW.out]; simp [HT0.out, HM.out, r4]
        go_enter Tryd.func24, Tryd.ntmps24
        go_wp2_with (first | (refine wpList_load_mid rfl 33 _ rfl b _ rfl _ _ HV2.out Tryd.underlying33 rfl size_Atom ?_) | (go_at_call 30; refine (Make_any num den ten _ (tens_below HT.out (w3_below _ _ _ _ _ _ _)) h1 h2).mono ?_; rintro e w2 ⟨rfl, hb2⟩; rw [HM.out]; simp only [fracV]; have g7 := cellAlloc (.cells #[.int .i64 fa, .int .i64 fb, .int .i64 fc] 70) (cell_under (w3_c w _ _ _ _ _ _ 7 _ rfl) hb2); have g11 := cellAlloc (.cells #[.int .i64 fa, .int .i64 fb, .int .i64 fc] 70) (cell_under (w3_c w _ _ _ _ _ _ 11 _ rfl) hb2); have gA := Lib.hid (cellAlloc (.cells #[.int .i64 fa, .int .i64 fb, .int .i64 fc] 70) (cell_under (w3_b w _ _ _ _ _ _ 0 _ rfl) hb2)); have gT := Lib.hid (cellAlloc (.cells #[.int .i64 fa, .int .i64 fb, .int .i64 fc] 70) (cell_under (w3_a w _ _ _ _ _ _ 0 _ rfl) hb2)); have HB2 : Hid (Below w.heap.size w (w2.alloc (.cells #[.int .i64 fa, .int .i64 fb, .int .i64 fc] 70))) := ((w3_below _ _ _ _ _ _ _).trans (hb2.mono (by simp; omega))).alloc (by have := hb2.size; simp at this; omega) _; clear hb2) | (go_at_call 32; refine (contains_term ts ta tc n _ _ b off cap t _ gA.out gT.out (range_below HR.out HB2.out HB.out) hn hlen (terms_below HI.out HB2.out) htl).mono ?_; rintro e w3 ⟨rfl, hb3⟩; have HB3 := Lib.hid hb3; clear hb3) | go_in)
        go_ret
        exact ⟨by rw [HO.out]; rfl, HB2.out⟩
      case pos =>
        have r5 : decide ((ts.length : Int) ≤ 9) = true := by simp; omega
        have HO : Hid (worthS t ts n = (!decide (0 ≤ idxT (badT t n) ts))) := by show _ = _; rw [HW.out]; simp [HT0.out, HM.out, r4, r2]
        go_enter Tryd.func24, Tryd.ntmps24
        go_wp2_with (first | (refine wpList_load_mid rfl 33 _ rfl b _ rfl _ _ HV2.out Tryd.underlying33 rfl size_Atom ?_) | (go_at_call 30; refine (Make_any num den ten _ (tens_below HT.out (w3_below _ _ _ _ _ _ _)) h1 h2).mono ?_; rintro e w2 ⟨rfl, hb2⟩; rw [HM.out]; simp only [fracV]; have g7 := cellAlloc (.cells #[.int .i64 fa, .int .i64 fb, .int .i64 fc] 70) (cell_under (w3_c w _ _ _ _ _ _ 7 _ rfl) hb2); have g11 := cellAlloc (.cells #[.int .i64 fa, .int .i64 fb, .int .i64 fc] 70) (cell_under (w3_c w _ _ _ _ _ _ 11 _ rfl) hb2); have gA := Lib.hid (cellAlloc (.cells #[.int .i64 fa, .int .i64 fb, .int .i64 fc] 70) (cell_under (w3_b w _ _ _ _ _ _ 0 _ rfl) hb2)); have gT := Lib.hid (cellAlloc (.cells #[.int .i64 fa, .int .i64 fb, .int .i64 fc] 70) (cell_under (w3_a w _ _ _ _ _ _ 0 _ rfl) hb2)); have HB2 : Hid (Below w.heap.size w (w2.alloc (.cells #[.int .i64 fa, .int .i64 fb, .int .i64 fc] 70))) := ((w3_below _ _ _ _ _ _ _).trans (hb2.mono (by simp; omega))).alloc (by have := hb2.size; simp at this; omega) _; clear hb2) | (go_at_call 32; refine (contains_term ts ta tc n _ _ b off cap t _ gA.out gT.out (range_below HR.out HB2.out HB.out) hn hlen (terms_below HI.out HB2.out) htl).mono ?_; rintro e w3 ⟨rfl, hb3⟩; have HB3 := Lib.hid hb3; clear hb3) | go_in)
        go_ret
        exact ⟨by rw [HO.out]; rfl, HB2.out.trans (HB3.out.mono HB2.out.size)⟩
    · have b1 : (base == -1) = false := by simpa using b0
      by_cases b2 : 0 ≤ base
      · have b3 : ¬ base < 7 := fun h => hb ⟨b2, h⟩
        have b4 : decide (base < 7) = false := decide_eq_false b3
        have b5 : decide (0 ≤ base) = true := decide_eq_true b2
        clear hb
        have HO : Hid (worthS t ts n = false) := by show _ = _; rw [HW.out]; simp [HT0.out, HM.out, b0, b3]
        go_enter Tryd.func24, Tryd.ntmps24
        go_wp2_with (first | (refine wpList_load_mid rfl 33 _ rfl b _ rfl _ _ HV2.out Tryd.underlying33 rfl size_Atom ?_) | (go_at_call 30; refine (Make_any num den ten _ (tens_below HT.out (w3_below _ _ _ _ _ _ _)) h1 h2).mono ?_; rintro e w2 ⟨rfl, hb2⟩; rw [HM.out]; simp only [fracV]; have g7 := cellAlloc (.cells #[.int .i64 fa, .int .i64 fb, .int .i64 fc] 70) (cell_under (w3_c w _ _ _ _ _ _ 7 _ rfl) hb2); have g11 := cellAlloc (.cells #[.int .i64 fa, .int .i64 fb, .int .i64 fc] 70) (cell_under (w3_c w _ _ _ _ _ _ 11 _ rfl) hb2); have gA := Lib.hid (cellAlloc (.cells #[.int .i64 fa, .int .i64 fb, .int .i64 fc] 70) (cell_under (w3_b w _ _ _ _ _ _ 0 _ rfl) hb2)); have gT := Lib.hid (cellAlloc (.cells #[.int .i64 fa, .int .i64 fb, .int .i64 fc] 70) (cell_under (w3_a w _ _ _ _ _ _ 0 _ rfl) hb2)); have HB2 : Hid (Below w.heap.size w (w2.alloc (.cells #[.int .i64 fa, .int .i64 fb, .int .i64 fc] 70))) := ((w3_below _ _ _ _ _ _ _).trans (hb2.mono (by simp; omega))).alloc (by have := hb2.size; simp at this; omega) _; clear hb2) | (go_at_call 32; refine (contains_term ts ta tc n _ _ b off cap t _ gA.out gT.out (range_below HR.out HB2.out HB.out) hn hlen (terms_below HI.out HB2.out) htl).mono ?_; rintro e w3 ⟨rfl, hb3⟩; have HB3 := Lib.hid hb3; clear hb3) | go_in)
        go_ret
        exact ⟨by rw [HO.out]; rfl, HB2.out⟩
      · have b5 : decide (0 ≤ base) = false := decide_eq_false b2
        clear hb
        have HO : Hid (worthS t ts n = false) := by show _ = _; rw [HW.out]; simp [HT0.out, HM.out, b0, b2]
        go_enter Tryd.func24, Tryd.ntmps24
        go_wp2_with (first | (refine wpList_load_mid rfl 33 _ rfl b _ rfl _ _ HV2.out Tryd.underlying33 rfl size_Atom ?_) | (go_at_call 30; refine (Make_any num den ten _ (tens_below HT.out (w3_below _ _ _ _ _ _ _)) h1 h2).mono ?_; rintro e w2 ⟨rfl, hb2⟩; rw [HM.out]; simp only [fracV]; have g7 := cellAlloc (.cells #[.int .i64 fa, .int .i64 fb, .int .i64 fc] 70) (cell_under (w3_c w _ _ _ _ _ _ 7 _ rfl) hb2); have g11 := cellAlloc (.cells #[.int .i64 fa, .int .i64 fb, .int .i64 fc] 70) (cell_under (w3_c w _ _ _ _ _ _ 11 _ rfl) hb2); have gA := Lib.hid (cellAlloc (.cells #[.int .i64 fa, .int .i64 fb, .int .i64 fc] 70) (cell_under (w3_b w _ _ _ _ _ _ 0 _ rfl) hb2)); have gT := Lib.hid (cellAlloc (.cells #[.int .i64 fa, .int .i64 fb, .int .i64 fc] 70) (cell_under (w3_a w _ _ _ _ _ _ 0 _ rfl) hb2)); have HB2 : Hid (Below w.heap.size w (w2.alloc (.cells #[.int .i64 fa, .int .i64 fb, .int .i64 fc] 70))) := ((w3_below _ _ _ _ _ _ _).trans (hb2.mono (by simp; omega))).alloc (by have := hb2.size; simp at this; omega) _; clear hb2) | (go_at_call 32; refine (contains_term ts ta tc n _ _ b off cap t _ gA.out gT.out (range_below HR.out HB2.out HB.out) hn hlen (terms_below HI.out HB2.out) htl).mono ?_; rintro e w3 ⟨rfl, hb3⟩; have HB3 := Lib.hid hb3; clear hb3) | go_in)
        go_ret
        exact ⟨by rw [HO.out]; rfl, HB2.out⟩
end Go.Proofs.YtiinppicdhidhaaDoor
