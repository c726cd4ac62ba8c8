/-
  The law AtomsRanks: the walk.
-/
import Derived.Test.YtiinppicdhidhaaDoorAa
import Derived.Deep.RegionHeld3
import Derived.Deep.QuietTactic
import Derived.BigQuiet
set_option linter.unusedVariables false
set_option linter.unusedSimpArgs false
namespace Go.Proofs.YtiinppicdhidhaaDoor
open Go.RowKit
open Go.Proofs

theorem below_drewQ {B : Nat} {a w : World} (h : Below B a w) (q : Nat) : Below B a (w.drewN q) := ⟨h.os, h.tape, h.output, h.size, h.block⟩
theorem termsOkB : ∀ a, a < 48 → ∀ m, m < (rowAt a).terms.length → 0 ≤ ((rowAt a).terms.getD m (0, 0)).1 ∧ ((rowAt a).terms.getD m (0, 0)).1 < (a : Int) ∧ (rowAt ((rowAt a).terms.getD m (0, 0)).1.toNat).tag = 0 ∧ ((rowAt a).terms.getD m (0, 0)).2 ≠ 0 ∧ baseAt a = -1 := by decide +kernel
set_option maxRecDepth 100000 in
set_option maxHeartbeats 8000000 in
theorem atomsRanks_any (i k : Int) (w : World) (hL : Laid w) (hN : NotesAt w) (hF : TensAt w) : Calls Tryd.prog 6 #[.int .i64 i, .int .i64 k] w fun e w' => e = .returned (.bool true) ∧ Below w.heap.size w w' := by
  have HL := Lib.hid hL
  have HN := Lib.hid hN
  have HF := Lib.hid hF
  clear hL hN hF
  obtain ⟨a, ha, ha2⟩ := rest_of i 48 (by omega)
  have HA := Lib.hid ha2
  clear ha2
  go_enter Tryd.func6, Tryd.ntmps6
  go_wp2_with fail
  refine (awake_any _ HL.out HN.out HF.out).mono ?_
  rintro e w0 ⟨rfl, hb0⟩
  have HL0 := Lib.hid (laid_below HL.out hb0)
  have HB0 := Lib.hid hb0
  clear hb0
  go_wp2_with fail
  refine (tab_ok _ HL0.out).mono ?_
  intro e w1 h1
  obtain ⟨g, c1, a2, c2, ss, rfl, hr, hg, ht, hb1⟩ := h1
  have HB1 := Lib.hid (HB0.out.trans (hb1.mono HB0.out.size))
  have HT := Lib.hid ht
  have HR := Lib.hid hr
  clear ht hb1 hg hr
  go_wp2_with fail
  obtain ⟨W, hW⟩ : ∃ W, w1.alloc (.cells #[.slice (some ⟨g, 0, none⟩) 48 c1, .slice a2 20 c2] 27) = W := ⟨_, rfl⟩
  have hba : Below w1.heap.size w1 W := by rw [← hW]; exact (Below.refl _ _).alloc (Nat.le_refl _) _
  have t0 : W.cell? ⟨w1.heap.size, 0, none⟩ = some (.slice (some ⟨g, 0, none⟩) 48 c1) := by rw [← hW]; exact cellNew _ _ _ 0 _ rfl
  rw [hW]
  have hV := atomD_range HR.out a (by rw [tabD_length]; exact ha)
  rw [tabD_get, Nat.zero_add] at hV
  have hV2 := range_under hV hba
  have HB2 := Lib.hid (HB1.out.trans (hba.mono HB1.out.size))
  have HBA := Lib.hid hba
  have hsl := slOf_eq (HT.out.slices a ha)
  obtain ⟨x, hx⟩ : ∃ x, rowD ss a = x := ⟨_, rfl⟩
  have e1 : x.base = baseAt a := by rw [← hx]; rfl
  have e2 : ss a = .slice x.ta x.tn x.tc := by rw [← hx]; exact hsl
  rw [hx] at hV2
  obtain ⟨x0, x1, x2, x3, x4, xm, xt, xb, xn, xd, xe, xa, xl, xc⟩ := x
  have HV : Hid (W.rangeAt g (a * 12) [.string x0, .string x1, .string x2, .string x3, .string x4, .bool xm, .int .i64 xt, .int .i64 xb, .int .i64 xn, .int .i64 xd, .int .i64 xe, .slice xa xl xc]) := hV2
  simp only at e1 e2
  have HE1 := Lib.hid e1
  have HE2 := Lib.hid e2
  have hlt : W.heap.size = W.heap.size := rfl
  clear hV hV2 hsl hx e1 e2 hba hlt hW
  have hi0 : (a : Int) < 48 := by omega
  have v0 : W.cell? ⟨g, a * 12, none⟩ = some (.string x0) := HV.out 0 _ rfl
  have v1 : W.cell? ⟨g, a * 12 + 1, none⟩ = some (.string x1) := HV.out 1 _ rfl
  have v2 : W.cell? ⟨g, a * 12 + 2, none⟩ = some (.string x2) := HV.out 2 _ rfl
  have v3 : W.cell? ⟨g, a * 12 + 3, none⟩ = some (.string x3) := HV.out 3 _ rfl
  have v4 : W.cell? ⟨g, a * 12 + 4, none⟩ = some (.string x4) := HV.out 4 _ rfl
  have v5 : W.cell? ⟨g, a * 12 + 5, none⟩ = some (.bool xm) := HV.out 5 _ rfl
  have v6 : W.cell? ⟨g, a * 12 + 6, none⟩ = some (.int .i64 xt) := HV.out 6 _ rfl
  have v7 : W.cell? ⟨g, a * 12 + 7, none⟩ = some (.int .i64 xb) := HV.out 7 _ rfl
  have v8 : W.cell? ⟨g, a * 12 + 8, none⟩ = some (.int .i64 xn) := HV.out 8 _ rfl
  have v9 : W.cell? ⟨g, a * 12 + 9, none⟩ = some (.int .i64 xd) := HV.out 9 _ rfl
  have v10 : W.cell? ⟨g, a * 12 + 10, none⟩ = some (.int .i64 xe) := HV.out 10 _ rfl
  have v11 : W.cell? ⟨g, a * 12 + 11, none⟩ = some (.slice xa xl xc) := HV.out 11 _ rfl
  go_region_held3 (fun w' => w'.cell? ⟨w1.heap.size, 0, none⟩ = some (.slice (some ⟨g, 0, none⟩) 48 c1) ∧ w'.cell? ⟨g, a * 12, none⟩ = some (.string x0) ∧ w'.cell? ⟨g, a * 12 + 1, none⟩ = some (.string x1) ∧ w'.cell? ⟨g, a * 12 + 2, none⟩ = some (.string x2) ∧ w'.cell? ⟨g, a * 12 + 3, none⟩ = some (.string x3) ∧ w'.cell? ⟨g, a * 12 + 4, none⟩ = some (.string x4) ∧ w'.cell? ⟨g, a * 12 + 5, none⟩ = some (.bool xm) ∧ w'.cell? ⟨g, a * 12 + 6, none⟩ = some (.int .i64 xt) ∧ w'.cell? ⟨g, a * 12 + 7, none⟩ = some (.int .i64 xb) ∧ w'.cell? ⟨g, a * 12 + 8, none⟩ = some (.int .i64 xn) ∧ w'.cell? ⟨g, a * 12 + 9, none⟩ = some (.int .i64 xd) ∧ w'.cell? ⟨g, a * 12 + 10, none⟩ = some (.int .i64 xe) ∧ w'.cell? ⟨g, a * 12 + 11, none⟩ = some (.slice xa xl xc))
    (first | go_keep)
    ((go_at_call 9; refine (rest_nat i _ a 48 (by omega) HA.out (by omega)).mono ?_; rintro e wx ⟨rfl, rfl⟩))
  all_goals
    obtain ⟨W2, hW2⟩ : ∃ W2, (W.alloc (.cells #[.string x0, .string x1, .string x2, .string x3, .string x4, .bool xm, .int .i64 xt, .int .i64 xb, .int .i64 xn, .int .i64 xd, .int .i64 xe, .slice xa xl xc] 33)).drew = W2 := ⟨_, rfl⟩
    have hb2 : Below W.heap.size W W2 := by rw [← hW2]; exact ((Below.refl _ _).alloc (Nat.le_refl _) _).drew
    have b11 : W2.cell? ⟨W.heap.size, 11, none⟩ = some (.slice xa xl xc) := by rw [← hW2, World.cell?_drew]; exact cellNew _ _ _ 11 _ rfl
    have b7 : W2.cell? ⟨W.heap.size, 7, none⟩ = some (.int .i64 xb) := by rw [← hW2, World.cell?_drew]; exact cellNew _ _ _ 7 _ rfl
    rw [hW2]
    have t2 := cell_under t0 hb2
    have HB3 := Lib.hid (HB2.out.trans (hb2.mono HB2.out.size))
    have hterm := HT.out.terms a ha
    rw [HE2.out] at hterm
    have hl : xl = (rowAt a).terms.length := (terms_in hterm).1
    have hlb := terms_few a ha
    rw [tabT, ← hl] at hlb
    have htb := termsOkB a ha
    have hbW : Below w1.heap.size w1 W2 := HBA.out.trans (hb2.mono HBA.out.size)
    have HTM := Lib.hid (hterm.below hbW)
    have HTL := Lib.hid hl
    have HTB := Lib.hid htb
    have HRW := Lib.hid (range_under HR.out hbW)
    clear hterm hl htb hbW hb2 hW2 v0 v1 v2 v3 v4 v5 v6 v7 v8 v9 v10 v11
    by_cases hx0 : xl = 0
    · subst hx0
      by_cases h7 : a < 7
      · have hb : xb = (a : Int) := by rw [HE1.out, baseAt, if_pos h7]
        subst hb
        have d0 : decide ((a : Int) < 0) = false := by simp
        clear HE1 
        go_wp2_with fail
        go_quiet ((go_at_call 9; exact Calls.quiet_of_same ((rest_nat i _ a 48 (by omega) HA.out (by omega)).mono fun e w' h => ⟨h.1, h.2.symm⟩)))
        go_wp2_with fail
        go_ret
        exact ⟨rfl, below_drewQ HB3.out _⟩
      · have hb : xb = -1 := by rw [HE1.out, baseAt, if_neg h7]
        subst hb
        go_wp2_with fail
        go_quiet (fail)
        go_wp2_with fail
        go_ret
        exact ⟨rfl, below_drewQ HB3.out _⟩
    · have hxp : 0 < xl := by omega
      obtain ⟨m, hm, hm2⟩ := rest_of k xl hxp
      have HM := Lib.hid hm2
      have HMB := HTB.out m (by rw [← HTL.out]; exact hm)
      obtain ⟨⟨y0, y1⟩, hy⟩ : ∃ y, (rowAt a).terms.getD m (0, 0) = y := ⟨_, rfl⟩
      rw [hy] at HMB
      obtain ⟨p1, p2, p3, p4, p5⟩ := HMB
      simp only at p1 p2 p3 p4 p5
      obtain ⟨n, hn⟩ : ∃ n : Nat, y0 = n := ⟨y0.toNat, by omega⟩
      subst hn
      have hb : xb = -1 := by rw [HE1.out, p5]
      subst hb
      obtain ⟨gt, tc, he⟩ := form_of (by have := HTM.out.own; rw [← HTL.out] at this; exact this) hxp
      simp only [Value.slice.injEq] at he
      obtain ⟨rfl, -, rfl⟩ := he
      have hmt : m < (rowAt a).terms.length := by rw [← HTL.out]; exact hm
      have hyy : (rowAt a).terms[m] = ((n : Int), y1) := by rw [← hy, List.getD_eq_getElem?_getD, List.getElem?_eq_getElem hmt]; rfl
      have hcell : ∀ j u, (termL ((n : Int), y1))[j]? = some u → W2.cell? ⟨gt, m * 2 + j, none⟩ = some u := by
        intro j u hu
        rcases (terms_in HTM.out).2 with h | ⟨b', off', h1, h2, h3⟩
        · rw [h] at hmt; simp at hmt
        · cases h1
          have := term_range h2 m hmt j u (by rw [hyy]; exact hu)
          rw [Nat.zero_add] at this
          exact this
      have u0 : W2.cell? ⟨gt, m * 2, none⟩ = some (.int .i64 (n : Int)) := hcell 0 _ rfl
      have u1 : W2.cell? ⟨gt, m * 2 + 1, none⟩ = some (.int .i64 y1) := hcell 1 _ rfl
      have tg : W2.cell? ⟨g, n * 12 + 6, none⟩ = some (.int .i64 0) := by
        have h1 := atomD_range HRW.out n (by rw [tabD_length]; omega) 6 (.int .i64 0) (by rw [tabD_get]; show some (Value.int .i64 (rowAt n).tag) = _; rw [← p3]; rfl)
        rw [Nat.zero_add] at h1
        exact h1
      have q1 : (m : Int) < xl := by omega
      have q2 : (xl : Int) ≤ 9 := by omega
      have HX0 := Lib.hid hx0
      have HHY := Lib.hid hy
      have HP3 := Lib.hid p3
      have HP5 := Lib.hid p5
      have HYY := Lib.hid hyy
      have HC := Lib.hid hcell
      have hxe : ((xl : Int) == 0) = false := by simp; omega
      clear hx0 hm2 hy p3 p5 hyy hcell
      go_wp2_with fail
      go_region_held3 (fun w' => w'.cell? ⟨W.heap.size, 11, none⟩ = some (.slice (some ⟨gt, 0, none⟩) xl xc) ∧ w'.cell? ⟨gt, m * 2, none⟩ = some (.int .i64 (n : Int)) ∧ w'.cell? ⟨gt, m * 2 + 1, none⟩ = some (.int .i64 y1))
        (first | go_keep)
        ((go_at_call 9; refine (rest_nat k _ m xl (by omega) HM.out (by omega)).mono ?_; rintro e wx ⟨rfl, rfl⟩))
      all_goals
        obtain ⟨W3, hW3⟩ : ∃ W3, (W2.alloc (.cells #[.int .i64 (n : Int), .int .i64 y1] 37)).drew = W3 := ⟨_, rfl⟩
        have hb3 : Below W2.heap.size W2 W3 := by rw [← hW3]; exact ((Below.refl _ _).alloc (Nat.le_refl _) _).drew
        have g0 : W3.cell? ⟨W2.heap.size, 0, none⟩ = some (.int .i64 (n : Int)) := by rw [← hW3, World.cell?_drew]; exact cellNew _ _ _ 0 _ rfl
        have g1 : W3.cell? ⟨W2.heap.size, 1, none⟩ = some (.int .i64 y1) := by rw [← hW3, World.cell?_drew]; exact cellNew _ _ _ 1 _ rfl
        rw [hW3]
        have t3 := cell_under t2 hb3
        have b37 := cell_under b7 hb3
        have tg3 := cell_under tg hb3
        have HB4 := Lib.hid (HB3.out.trans (hb3.mono HB3.out.size))
        have n1 : decide ((n : Int) < 0) = false := by simp
        have n2 : decide (a ≤ n) = false := by simp; omega
        have n3 : (y1 == 0) = false := by simpa using p4
        have n4 : (y1 != 0) = true := by simpa using p4
        have n5 : (n : Int) < 48 := by omega
        clear hb3 hW3 u0 u1 t2 b7 b11 tg t0
        go_wp2_with fail
        go_quiet ((go_at_call 9; exact Calls.quiet_of_same ((rest_nat i _ a 48 (by omega) HA.out (by omega)).mono fun e w' h => ⟨h.1, h.2.symm⟩)))
        go_wp2_with fail
        go_ret
        exact ⟨rfl, below_drewQ HB4.out _⟩
end Go.Proofs.YtiinppicdhidhaaDoor
