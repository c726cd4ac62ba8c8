/-
  The law AtomsApart: the walk.
-/
import Derived.Test.YtiinppicdhidhaaDoorAk
set_option linter.unusedVariables false
set_option linter.unusedSimpArgs false
namespace Go.Proofs.YtiinppicdhidhaaDoor
open Go.RowKit
open Go.Proofs

theorem laid_below {w w' : World} (h : Laid w) (hb : Below w.heap.size w w') : Laid w' := fun j u hu => cell_under (h j u hu) hb
theorem rest_eq (x n : Int) (h : 0 < n) (h2 : n < 100000) : (wrap64 (x.tmod n + n)).tmod n = x % n := by
  have h3 := Int.tmod_lt_of_pos x h
  have h4 : -n < x.tmod n := by
    have := Int.tmod_lt_of_pos (-x) h
    rw [Int.neg_tmod] at this
    omega
  have e : wrap64 (x.tmod n + n) = x.tmod n + n := by unfold wrap64; omega
  rw [e, Int.tmod_eq_emod_of_nonneg (by omega), Int.add_emod_right]
  rw [Int.tmod_eq_emod]
  split
  · simp
  · rw [Int.sub_emod, Int.emod_emod_of_dvd _ (Int.dvd_refl n)]
    have : ((n.natAbs : Int)) = n := by omega
    simp [this]
set_option maxHeartbeats 400000 in
theorem rest_any (x n : Int) (w : World) (h : 0 < n) (h2 : n < 100000) :
    Calls Tryd.prog 9 #[.int .i64 x, .int .i64 n] w fun e w' => e = .returned (.int .i64 (x % n)) ∧ w = w' := by
  have hne : (n == 0) = false := by simp; omega
  have he := Lib.hid (rest_eq x n h h2)
  go_enter Tryd.func9, Tryd.ntmps9
  go_wp2
  go_ret
  exact ⟨by rw [← he.out]; rfl, rfl⟩
/-- A rest as a natural number. -/
theorem rest_nat (x : Int) (w : World) (n m : Nat) (hm : m < 100000) (h : x % (m : Int) = (n : Int)) (h0 : 0 < m) : Calls Tryd.prog 9 #[.int .i64 x, .int .i64 (m : Int)] w fun e w' => e = .returned (.int .i64 (n : Int)) ∧ w = w' := by
  have := rest_any x m w (by omega) (by omega)
  rw [h] at this
  exact this
theorem rest_of (x : Int) (m : Nat) (h : 0 < m) : ∃ n : Nat, n < m ∧ x % (m : Int) = (n : Int) := ⟨(x % (m : Int)).toNat, by have := Int.emod_lt_of_pos x (show (0 : Int) < m by omega); have := Int.emod_nonneg x (show (m : Int) ≠ 0 by omega); omega, by have := Int.emod_nonneg x (show (m : Int) ≠ 0 by omega); omega⟩
theorem code_cell {w : World} {g i c : Nat} {ss : Nat → Value} (h : w.rangeAt g 0 (atomsL (tabD ss))) (hi : i < 48) (hc : c < 5) : w.cell? ⟨g, i * 12 + c, none⟩ = some (.string ⟨(codeAt i c).toArray⟩) := by
  have h1 := atomD_range h i (by rw [tabD_length]; exact hi) c (.string ⟨(codeAt i c).toArray⟩) (by
    rw [tabD_get]
    rcases c with _ | _ | _ | _ | _ | c <;> first | rfl | omega)
  rw [Nat.zero_add] at h1
  exact h1
theorem pre_cellC {w : World} {B g cap i c : Nat} (h : w.ownsRow B 35 6 (.slice (some ⟨g, 0, none⟩) 20 cap) 20 (presV tabPres)) (hi : i < 20) (hc : c < 5) : w.cell? ⟨g, i * 6 + c, none⟩ = some (.string ⟨(preCodeAt i c).toArray⟩) := by
  refine pre_range h i hi c (.string ⟨(preCodeAt i c).toArray⟩) ?_
  rcases c with _ | _ | _ | _ | _ | c <;> first | rfl | omega
theorem apartA : ∀ a, a < 48 → ∀ b, b < 48 → ∀ c, c < 5 → a = b ∨ codeAt a c = [] ∨ codeAt a c ≠ codeAt b c := by decide +kernel
theorem apartP : ∀ a, a < 20 → ∀ b, b < 20 → ∀ c, c < 5 → a = b ∨ preCodeAt a c = [] ∨ preCodeAt a c ≠ preCodeAt b c := by decide +kernel
theorem firstA0 : ∀ a, a < 48 → codeAt a 0 ≠ [] := by decide +kernel
theorem firstP0 : ∀ a, a < 20 → preCodeAt a 0 ≠ [] := by decide +kernel
set_option maxRecDepth 100000 in
set_option maxHeartbeats 8000000 in
theorem atomsApart_any (i k n : Int) (w : World) (hL : Laid w) (hN : NotesAt w) (hF : TensAt w) : Calls Tryd.prog 5 #[.int .i64 i, .int .i64 k, .int .i64 n] w fun e w' => e = .returned (.bool true) ∧ Below w.heap.size w w' := by
  have HL := Lib.hid hL
  have HN := Lib.hid hN
  have HF := Lib.hid hF
  clear hL hN hF
  obtain ⟨a, ha, ha2⟩ := rest_of i 48 (by omega)
  obtain ⟨b, hb, hb2⟩ := rest_of k 48 (by omega)
  obtain ⟨p, hp, hp2⟩ := rest_of i 20 (by omega)
  obtain ⟨q, hq, hq2⟩ := rest_of k 20 (by omega)
  obtain ⟨c, hc, hc2⟩ := rest_of n 5 (by omega)
  have HA := Lib.hid ha2
  have HB := Lib.hid hb2
  have HP := Lib.hid hp2
  have HQ := Lib.hid hq2
  have HC := Lib.hid hc2
  clear ha2 hb2 hp2 hq2 hc2
  go_enter Tryd.func5, Tryd.ntmps5
  go_wp2_with fail
  refine (awake_any _ HL.out HN.out HF.out).mono ?_
  rintro e w0 ⟨rfl, hb0⟩
  have HL0 := Lib.hid (laid_below HL.out hb0)
  have HB0 := Lib.hid hb0
  clear hb0
  go_wp2_with fail
  refine (tab_ok _ HL0.out).mono ?_
  intro e w1 h1
  obtain ⟨g, c1, a2, c2, ss, rfl, hr, hg, ht, hb1⟩ := h1
  obtain ⟨g2, c2', e2⟩ := form_of ht.pres (by omega)
  simp only [Value.slice.injEq] at e2
  obtain ⟨rfl, -, rfl⟩ := e2
  have HB1 := Lib.hid (HB0.out.trans (hb1.mono HB0.out.size))
  have HR := Lib.hid hr
  have HT := Lib.hid ht
  clear hr ht hb1 hg
  go_wp2_with fail
  refine (rest_nat i _ a 48 (by omega) HA.out (by omega)).mono ?_
  rintro e wx ⟨rfl, rfl⟩
  go_wp2_with fail
  refine (rest_nat k _ b 48 (by omega) HB.out (by omega)).mono ?_
  rintro e wx ⟨rfl, rfl⟩
  go_wp2_with fail
  refine (rest_nat i _ p 20 (by omega) HP.out (by omega)).mono ?_
  rintro e wx ⟨rfl, rfl⟩
  go_wp2_with fail
  refine (rest_nat k _ q 20 (by omega) HQ.out (by omega)).mono ?_
  rintro e wx ⟨rfl, rfl⟩
  go_wp2_with fail
  refine (rest_nat n _ c 5 (by omega) HC.out (by omega)).mono ?_
  rintro e wx ⟨rfl, rfl⟩
  obtain ⟨W, hW⟩ : ∃ W, w1.alloc (.cells #[.slice (some ⟨g, 0, none⟩) 48 c1, .slice (some ⟨g2, 0, none⟩) 20 c2] 27) = W := ⟨_, rfl⟩
  have hba : Below w1.heap.size w1 W := by rw [← hW]; exact (Below.refl _ _).alloc (Nat.le_refl _) _
  have t0 : W.cell? ⟨w1.heap.size, 0, none⟩ = some (.slice (some ⟨g, 0, none⟩) 48 c1) := by rw [← hW]; exact cellNew _ _ _ 0 _ rfl
  have t1 : W.cell? ⟨w1.heap.size, 1, none⟩ = some (.slice (some ⟨g2, 0, none⟩) 20 c2) := by rw [← hW]; exact cellNew _ _ _ 1 _ rfl
  rw [hW]
  obtain ⟨x, hx⟩ : ∃ x, codeAt a c = x := ⟨_, rfl⟩
  obtain ⟨y, hy⟩ : ∃ x, codeAt b c = x := ⟨_, rfl⟩
  obtain ⟨u, hu⟩ : ∃ x, preCodeAt p c = x := ⟨_, rfl⟩
  obtain ⟨v, hv⟩ : ∃ x, preCodeAt q c = x := ⟨_, rfl⟩
  obtain ⟨x0, hx0⟩ : ∃ x, codeAt a 0 = x := ⟨_, rfl⟩
  obtain ⟨u0, hu0⟩ : ∃ x, preCodeAt p 0 = x := ⟨_, rfl⟩
  have f1 : W.cell? ⟨g, a * 12 + c, none⟩ = some (.string ⟨x.toArray⟩) := by rw [← hx]; exact cell_under (code_cell HR.out ha hc) hba
  have f2 : W.cell? ⟨g, b * 12 + c, none⟩ = some (.string ⟨y.toArray⟩) := by rw [← hy]; exact cell_under (code_cell HR.out hb hc) hba
  have f3 : W.cell? ⟨g2, p * 6 + c, none⟩ = some (.string ⟨u.toArray⟩) := by rw [← hu]; exact cell_under (pre_cellC HT.out.pres hp hc) hba
  have f4 : W.cell? ⟨g2, q * 6 + c, none⟩ = some (.string ⟨v.toArray⟩) := by rw [← hv]; exact cell_under (pre_cellC HT.out.pres hq hc) hba
  have f5 : W.cell? ⟨g, a * 12, none⟩ = some (.string ⟨x0.toArray⟩) := by rw [← hx0]; exact cell_under (code_cell HR.out ha (show 0 < 5 by omega)) hba
  have f6 : W.cell? ⟨g2, p * 6, none⟩ = some (.string ⟨u0.toArray⟩) := by rw [← hu0]; exact cell_under (pre_cellC HT.out.pres hp (show 0 < 5 by omega)) hba
  have hX := apartA a ha b hb c hc
  have hP := apartP p hp q hq c hc
  have hX0 := firstA0 a ha
  have hP0 := firstP0 p hp
  rw [hx, hy] at hX
  rw [hu, hv] at hP
  rw [hx0] at hX0
  rw [hu0] at hP0
  have HB2 := Lib.hid (HB1.out.trans (hba.mono HB1.out.size))
  have e1 : x0.isEmpty = false := by cases x0 with | nil => exact (hX0 rfl).elim | cons _ _ => rfl
  have e2 : u0.isEmpty = false := by cases u0 with | nil => exact (hP0 rfl).elim | cons _ _ => rfl
  have ne : ∀ i j : Nat, i ≠ j → ((i : Int) != (j : Int)) = true := fun i j h => by simp; omega
  have nes : ∀ l : List UInt8, l ≠ [] → l.isEmpty = false := fun l h => by cases l with | nil => exact (h rfl).elim | cons _ _ => rfl
  have neq : ∀ l m : List UInt8, l ≠ m → (l == m) = false := fun l m h => by simpa using h
  have NE := Lib.hid ne
  have NES := Lib.hid nes
  have NEQ := Lib.hid neq
  clear hX0 hP0 hba hW hx hy hu hv hx0 hu0 ne nes neq
  by_cases c1 : a = b
  · subst c1
    clear hX
    by_cases c3 : p = q
    · subst c3
      clear hP
      go_wp2_with fail
      go_ret
      exact ⟨rfl, HB2.out⟩
    · have d3 := NE.out p q c3
      by_cases c4 : u = []
      · clear hP
        subst c4
        go_wp2_with fail
        go_ret
        exact ⟨rfl, HB2.out⟩
      · have d4 := NES.out u c4
        have d5 := NEQ.out u v (hP.resolve_left c3 |>.resolve_left c4)
        clear hP c4
        go_wp2_with fail
        go_ret
        exact ⟨rfl, HB2.out⟩
  · have d1 := NE.out a b c1
    by_cases c2 : x = []
    · clear hX
      subst c2
      by_cases c3 : p = q
      · subst c3
        clear hP
        go_wp2_with fail
        go_ret
        exact ⟨rfl, HB2.out⟩
      · have d3 := NE.out p q c3
        by_cases c4 : u = []
        · clear hP
          subst c4
          go_wp2_with fail
          go_ret
          exact ⟨rfl, HB2.out⟩
        · have d4 := NES.out u c4
          have d5 := NEQ.out u v (hP.resolve_left c3 |>.resolve_left c4)
          clear hP c4
          go_wp2_with fail
          go_ret
          exact ⟨rfl, HB2.out⟩
    · have d2 := NES.out x c2
      have d6 := NEQ.out x y (hX.resolve_left c1 |>.resolve_left c2)
      clear hX c2
      by_cases c3 : p = q
      · subst c3
        clear hP
        go_wp2_with fail
        go_ret
        exact ⟨rfl, HB2.out⟩
      · have d3 := NE.out p q c3
        by_cases c4 : u = []
        · clear hP
          subst c4
          go_wp2_with fail
          go_ret
          exact ⟨rfl, HB2.out⟩
        · have d4 := NES.out u c4
          have d5 := NEQ.out u v (hP.resolve_left c3 |>.resolve_left c4)
          clear hP c4
          go_wp2_with fail
          go_ret
          exact ⟨rfl, HB2.out⟩
end Go.Proofs.YtiinppicdhidhaaDoor
