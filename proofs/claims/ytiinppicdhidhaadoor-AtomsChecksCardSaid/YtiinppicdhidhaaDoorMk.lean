/-
  frac.Make.
-/
import Derived.Test.YtiinppicdhidhaaDoorFo
set_option linter.unusedVariables false
set_option linter.unusedSimpArgs false
namespace Go.Proofs.YtiinppicdhidhaaDoor
open Go.RowKit
open Go.Proofs

def makeI (num den ten : Int) : (Int × Int × Int) × Int :=
  if num < -9223372036854775807 ∨ den < -9223372036854775807 then ((0, 0, 0), 1)
  else if den = 0 then ((0, 0, 0), 11)
  else if num = 0 then ((0, 1, 0), 0)
  else if ten < -2000 ∨ 2000 < ten then ((0, 0, 0), 10)
  else formI (loosenI num den) ten
theorem loosenI_bd (num den : Int) (h0 : num ≠ 0) (h1 : -9223372036854775807 ≤ num) (h2 : num ≤ 9223372036854775807) (k0 : den ≠ 0) :
    (-9223372036854775807 ≤ (loosenI num den).up ∧ (loosenI num den).up ≤ 9223372036854775807) ∧ (-64 ≤ (loosenI num den).t0 ∧ (loosenI num den).t0 ≤ 64) ∧ -64 ≤ (loosenI num den).t1 ∧ (loosenI num den).t1 ≤ 64 := by
  have a := splitF_bd (p := 2) (by omega) 64 num h0
  have b := splitF_bd (p := 2) (by omega) 64 den k0
  have c := splitF_bd (p := 5) (by omega) 64 _ a.1
  have d := splitF_bd (p := 5) (by omega) 64 _ b.1
  have hg : 0 < Int.gcd (splitF 5 64 (splitF 2 64 num).2).2 (splitF 5 64 (splitF 2 64 den).2).2 := Int.gcd_pos_of_ne_zero_left _ c.1
  refine ⟨?_, ?_, ?_⟩
  · simp only [loosenI, gsign]
    split
    · have := tdiv_bdn (splitF 5 64 (splitF 2 64 num).2).2 _ hg
      omega
    · have := tdiv_bd (splitF 5 64 (splitF 2 64 num).2).2 _ hg
      omega
  · simp only [loosenI]; omega
  · simp only [loosenI]; omega
theorem fracRow (w : World) (cs : List Value) (t : TypeId) : Below w.heap.size w (w.alloc (.cells cs.toArray t)) := (Below.refl _ _).alloc (Nat.le_refl _) _
theorem rowNew (w : World) (cs : List Value) (t : TypeId) : (w.alloc (.cells cs.toArray t)).rangeAt w.heap.size 0 cs := fun j v h => by
  rw [Nat.zero_add]
  exact cellNew w _ _ j v (by simpa using h)
set_option maxRecDepth 100000 in
set_option maxHeartbeats 4000000 in
theorem Make_any (num den ten : Int) (w : World) (hT : TensAt w) (h2 : num ≤ 9223372036854775807) (k2 : den ≤ 9223372036854775807) :
    Calls Tryd.prog 30 #[.int .i64 num, .int .i64 den, .int .i64 ten] w (FracOk w (makeI num den ten)) := by
  have HT := Lib.hid hT
  clear hT
  have fin : ∀ (W : World) (a b c e : Int) (tmps : Array Value), tmps.getD 6 undef = .pointer (some ⟨w.heap.size, 0, none⟩) → tmps.getD 7 undef = .int .i64 e → W.rangeAt w.heap.size 0 [.int .i64 a, .int .i64 b, .int .i64 c] → Below w.heap.size w W → makeI num den ten = ((a, b, c), e) →
      bodyPost Tryd.prog Tryd.f30 (FracOk w (makeI num den ten)) .ret { tmps := tmps, defers := [] } W := by
    intro W a b c e tmps h6 h7 hc hb hm
    refine bodyPost_ret (v := .tuple #[.agg #[.int .i64 a, .int .i64 b, .int .i64 c], .int .i64 e]) ?_ rfl ⟨by rw [hm]; rfl, hb⟩
    have h := results_row2 Tryd.results30 tmps W w.heap.size [.int .i64 a, .int .i64 b, .int .i64 c] _ h6 hc Tryd.underlying70 rfl (by kernel_rfl)
    rw [h7] at h
    exact h
  have FIN := Lib.hid fin
  clear fin
  by_cases hn : num < -9223372036854775807
  · go_enter Tryd.func30, Tryd.ntmps30
    go_wp2_with (go_at_call 38; refine (fits_no num _ (by omega)).mono ?_; rintro e wx ⟨rfl, rfl⟩)
    refine FIN.out _ 0 0 0 1 _ ?_ ?_ (rowNew w _ _) (fracRow w _ _) (by rw [makeI, if_pos (.inl hn)]) <;> rfl
  · by_cases hd : den < -9223372036854775807
    · go_enter Tryd.func30, Tryd.ntmps30
      go_wp2_with fail
      refine (fits_yes num _ (by omega)).mono ?_
      rintro e wx ⟨rfl, rfl⟩
      go_wp2_with fail
      refine (fits_no den _ (by omega)).mono ?_
      rintro e wx ⟨rfl, rfl⟩
      go_wp2_with fail
      refine FIN.out _ 0 0 0 1 _ ?_ ?_ (rowNew w _ _) (fracRow w _ _) (by rw [makeI, if_pos (.inr hd)]) <;> rfl
    · have HM : Hid (makeI num den ten = if den = 0 then ((0, 0, 0), 11) else if num = 0 then ((0, 1, 0), 0) else if ten < -2000 ∨ 2000 < ten then ((0, 0, 0), 10) else formI (loosenI num den) ten) := by show _ = _; rw [makeI, if_neg (by omega)]
      by_cases hd0 : den = 0
      · subst hd0
        go_enter Tryd.func30, Tryd.ntmps30
        go_wp2_with fail
        refine (fits_yes num _ (by omega)).mono ?_
        rintro e wx ⟨rfl, rfl⟩
        go_wp2_with fail
        refine (fits_yes 0 _ (by omega)).mono ?_
        rintro e wx ⟨rfl, rfl⟩
        go_wp2_with fail
        refine FIN.out _ 0 0 0 11 _ ?_ ?_ (rowNew w _ _) (fracRow w _ _) (by rw [HM.out, if_pos (by simp)]) <;> rfl
      · have hdb : (den == 0) = false := by simpa using hd0
        by_cases hn0 : num = 0
        · subst hn0
          go_enter Tryd.func30, Tryd.ntmps30
          go_wp2_with fail
          refine (fits_yes 0 _ (by omega)).mono ?_
          rintro e wx ⟨rfl, rfl⟩
          go_wp2_with fail
          refine (fits_yes den _ (by omega)).mono ?_
          rintro e wx ⟨rfl, rfl⟩
          go_wp2_with fail
          refine FIN.out _ 0 1 0 0 _ ?_ ?_ (rowNew w _ _) (fracRow w _ _) (by rw [HM.out, if_neg hd0, if_pos (by simp)]) <;> rfl
        · have hnb : (num == 0) = false := by simpa using hn0
          by_cases ht : ten < -2000 ∨ 2000 < ten
          · have HT2 : Hid (makeI num den ten = ((0, 0, 0), 10)) := by show _ = _; rw [HM.out, if_neg hd0, if_neg hn0, if_pos ht]
            rcases ht with ht | ht
            all_goals
              go_enter Tryd.func30, Tryd.ntmps30
              go_wp2_with fail
              refine (fits_yes num _ (by omega)).mono ?_
              rintro e wx ⟨rfl, rfl⟩
              go_wp2_with fail
              refine (fits_yes den _ (by omega)).mono ?_
              rintro e wx ⟨rfl, rfl⟩
              go_wp2_with fail
              refine FIN.out _ 0 0 0 10 _ ?_ ?_ (rowNew w _ _) (fracRow w _ _) HT2.out <;> rfl
          · have ht1 : -2000 ≤ ten := by omega
            have ht2 : ten ≤ 2000 := by omega
            have HT2 : Hid (makeI num den ten = formI (loosenI num den) ten) := by show _ = _; rw [HM.out, if_neg hd0, if_neg hn0, if_neg ht]
            have bd := loosenI_bd num den hn0 (by omega) h2 hd0
            obtain ⟨⟨up, down, t0, t1⟩, hl⟩ : ∃ x, loosenI num den = x := ⟨_, rfl⟩
            have HLO := Lib.hid hl
            rw [hl] at bd
            simp only at bd
            obtain ⟨⟨u1, u2⟩, ⟨v1, v2⟩, v3, v4⟩ := bd
            have HTA : Hid (∀ o, TensAt (w.alloc o)) := fun o => ⟨cellAlloc o HT.out.1, cellAlloc o HT.out.2⟩
            clear hl ht
            go_enter Tryd.func30, Tryd.ntmps30
            go_wp2_with fail
            refine (fits_yes num _ (by omega)).mono ?_
            rintro e wx ⟨rfl, rfl⟩
            go_wp2_with fail
            refine (fits_yes den _ (by omega)).mono ?_
            rintro e wx ⟨rfl, rfl⟩
            go_wp2_with fail
            refine (loosen_any num den _ (HTA.out _) hn0 (by omega) h2 hd0 (by omega) k2).mono ?_
            rintro e w1 ⟨rfl, hb1⟩
            rw [HLO.out]
            have HB1 := Lib.hid hb1
            clear hb1
            go_wp2_with fail
            refine (form_any up down t0 t1 ten w1 ⟨(HB1.out.cell (World.block_lt_of_cell? _ _ (HTA.out _).1)).trans (HTA.out _).1, (HB1.out.cell (World.block_lt_of_cell? _ _ (HTA.out _).2)).trans (HTA.out _).2⟩ u1 u2 v1 v2 v3 v4 ht1 ht2).mono ?_
            rintro e w2 ⟨rfl, hb2⟩
            obtain ⟨⟨⟨f1, f2, f3⟩, fe⟩, hr⟩ : ∃ r, formI ⟨up, down, t0, t1⟩ ten = r := ⟨_, rfl⟩
            have HR := Lib.hid hr
            rw [hr]
            simp only [fracV]
            have hbb := HB1.out.trans (hb2.mono HB1.out.size)
            have z : ∀ i, i < 3 → w2.cell? ⟨w.heap.size, i, none⟩ = some (.int .i64 0) := by
              intro i hi
              have h3 : i = 0 ∨ i = 1 ∨ i = 2 := by omega
              exact (hbb.cell (p := ⟨w.heap.size, i, none⟩) (by simp)).trans (cellNew w #[.int .i64 0, .int .i64 0, .int .i64 0] 70 i (.int .i64 0) (by rcases h3 with rfl | rfl | rfl <;> rfl))
            have zf : ∀ i, w2.frozen? ⟨w.heap.size, i, none⟩ = false := fun i => (hbb.frozen (p := ⟨w.heap.size, i, none⟩) (by simp)).trans (World.frozen?_alloc_new w _ _ i)
            have z0 := z 0 (by omega)
            have z1 := z 1 (by omega)
            have z2 := z 2 (by omega)
            have HZ := Lib.hid z
            have HBB : Hid (Below w.heap.size w w2) := (fracRow w [_, _, _] _).trans (hbb.mono (by simp))
            clear hb2 hbb z hr
            go_wp2_with fail
            refine FIN.out _ f1 f2 f3 fe _ ?_ ?_ (setRowL_range w.heap.size [.int .i64 f1, .int .i64 f2, .int .i64 f3] 0 w2 (fun i h1 h2 => by rw [HZ.out i (by simpa using h2)]; rfl)) (((HBB.out.setCell (Nat.le_refl _) _).setCell (Nat.le_refl _) _).setCell (Nat.le_refl _) _) (by rw [HT2.out, HLO.out, HR.out]) <;> rfl
end Go.Proofs.YtiinppicdhidhaaDoor
