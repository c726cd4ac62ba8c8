/-
  The law's own: parts (its recursion).
-/
import Derived.Test.YteiialpecaebdaaDoorAp
set_option linter.unusedVariables false
set_option linter.unusedSimpArgs false
namespace Go.Proofs.YteiialpecaebdaaDoor
open Go.RowKit
open Go.Proofs
open Tree

theorem SlAt.below2 {w w' : World} {a : Option Addr} {t : List StepD} (h : SlAt w a t) (hb : Below w.heap.size w w') : SlAt w' a t := h.below hb
theorem six {w w' : World} {b B : Nat} {x : StepD} (hb : Below B w w') (h : w.rangeAt b 0 (stepL x)) (hl : b < B) :
    w'.cell? ⟨b, 0, none⟩ = some (.int .i64 x.op) ∧ w'.cell? ⟨b, 1, none⟩ = some (.int .i64 x.pre) ∧ w'.cell? ⟨b, 2, none⟩ = some (.int .i64 x.atom) ∧ w'.cell? ⟨b, 3, none⟩ = some (.int .i64 x.n) ∧ w'.cell? ⟨b, 4, none⟩ = some (.int .i64 x.num) ∧ w'.cell? ⟨b, 5, none⟩ = some (.string x.text) := by
  have h2 := rangeAt_below h hb hl
  have g : ∀ j v, (stepL x)[j]? = some v → w'.cell? ⟨b, j, none⟩ = some v := fun j v hv => by have := h2 j v hv; rwa [Nat.zero_add] at this
  exact ⟨g 0 _ rfl, g 1 _ rfl, g 2 _ rfl, g 3 _ rfl, g 4 _ rfl, g 5 _ rfl⟩
def TrueB (w : World) (e : Ending) (w' : World) : Prop := e = .returned (.bool true) ∧ Below w.heap.size w w'
set_option maxHeartbeats 1000000 in
theorem lawParts_no (a : Option Addr) (c : Nat) (t : List StepD) (w : World) (hL : Laid w) (hS : SlAt w a t) (hl : t.length ≤ 1000) (hc : t.length ≤ c) (hn : soundB t = false) :
    Calls Tryd.prog 13 #[.slice a t.length c] w (TrueB w) := by
  have HL := Lib.hid hL
  have HS := Lib.hid hS
  clear hL hS
  go_enter Tryd.func13, Tryd.ntmps13
  go_wp2_with fail
  refine (Parts_any a c t w HL.out HS.out hl hc).mono ?_
  rintro e w1 ⟨vl, vr, l, r, rfl, hp, hvl, hvr, hb1⟩
  have hp2 : l = [] ∧ r = [] := by
    rcases hp with ⟨_, h1, h2⟩ | ⟨h, _⟩
    · exact ⟨h1, h2⟩
    · rw [hn] at h; cases h
  obtain ⟨rfl, rfl⟩ := hp2
  obtain ⟨al, cl, rfl, hSl, _⟩ := own_sl hvl
  obtain ⟨ar, cr, rfl, hSr, _⟩ := own_sl hvr
  clear hvl hvr hSl hSr hp
  go_wp2_with fail
  refine (sound_any a c t w1 (HL.out.below hb1) (HS.out.below hb1) hl).mono ?_
  rintro e w2 ⟨rfl, hb2⟩
  rw [hn]
  go_wp2_with fail
  go_ret
  exact ⟨rfl, bel2 hb1 hb2⟩
theorem ops_leaf {x : StepD} (h : mayB x = true) (h2 : takesI x.op = 0) : x.op = 1 ∨ x.op = 2 ∨ x.op = 7 := by
  unfold mayB at h
  unfold takesI at h2
  by_cases h1 : x.op = 1
  · exact .inl h1
  · by_cases h3 : x.op = 2
    · exact .inr (.inl h3)
    · by_cases h7 : x.op = 7
      · exact .inr (.inr h7)
      · exfalso
        by_cases h4 : x.op = 3
        · rw [if_pos h4] at h2; omega
        · by_cases h5 : x.op = 4
          · rw [if_neg h4, if_pos h5] at h2; omega
          · by_cases h6 : x.op = 5
            · rw [if_neg h4, if_neg h5, if_pos h6] at h2; omega
            · by_cases h8 : x.op = 6
              · rw [if_neg h4, if_neg h5, if_neg h6, if_pos h8] at h2; omega
              · rw [if_neg h1, if_neg h3, if_neg (by omega), if_neg (by omega)] at h
                cases h
theorem ops_one {x : StepD} (h2 : takesI x.op = 1) : x.op = 5 ∨ x.op = 6 := by
  unfold takesI at h2
  by_cases h4 : x.op = 3
  · rw [if_pos h4] at h2; omega
  · by_cases h5 : x.op = 4
    · rw [if_neg h4, if_pos h5] at h2; omega
    · rw [if_neg h4, if_neg h5] at h2
      by_cases h6 : x.op = 5
      · exact .inl h6
      · by_cases h8 : x.op = 6
        · exact .inr h8
        · rw [if_neg h6, if_neg h8] at h2; omega
theorem ops_two {x : StepD} (h2 : takesI x.op = 2) : x.op = 3 ∨ x.op = 4 := by
  unfold takesI at h2
  by_cases h4 : x.op = 3
  · exact .inl h4
  · by_cases h5 : x.op = 4
    · exact .inr h5
    · rw [if_neg h4, if_neg h5] at h2
      by_cases h6 : x.op = 5
      · rw [if_pos h6] at h2; omega
      · by_cases h8 : x.op = 6
        · rw [if_neg h6, if_pos h8] at h2; omega
        · rw [if_neg h6, if_neg h8] at h2; omega
/-- The last step of a tree lies last. -/
theorem last_at {w : World} {g o : Nat} {T : Tree} (h : w.rangeAt g o (stepsL T.ser)) : w.rangeAt g (o + (T.ser.length - 1) * 6) (stepL T.root) := by
  obtain ⟨l, hl⟩ := T.ser_root
  have hp := T.ser_pos
  have h2 := step_range h (T.ser.length - 1) (by omega)
  have e : T.ser[T.ser.length - 1]'(by omega) = T.root := by
    simp only [hl, List.length_append, List.length_singleton, Nat.add_sub_cancel]
    simp
  rw [e] at h2
  exact h2
set_option maxHeartbeats 8000000 in
theorem lawParts_one (t r : List StepD) (xo xp xa xn xm : Int) (xt : ByteArray) (g o c n : Nat) (w : World) (ht : t = r ++ [⟨xo, xp, xa, xn, xm, xt⟩]) (hn : t.length = n + 1) (hsb : soundB t = true) (hpl : ∀ l' r', partsS t l' r' → l' = [] ∧ r' = r) (hsl : soundB [] = false) (hsr : soundB r = true) (hop : xo = 5 ∨ xo = 6) (hlen : n ≤ 254)
    (hr : w.rangeAt g o (stepsL t)) (hrx : w.rangeAt g (o + n * 6) (stepL ⟨xo, xp, xa, xn, xm, xt⟩)) (hL : Laid w) (hc : n + 1 ≤ c)
    (ihr : ∀ a c w, Laid w → SlAt w a r → r.length ≤ c → Calls Tryd.prog 13 #[.slice a r.length c] w (TrueB w)) :
    Calls Tryd.prog 13 #[.slice (some ⟨g, o, none⟩) (n + 1) c] w (TrueB w) := by
  have hlr : 0 + r.length = n := by have := congrArg List.length ht; simp at this; omega
  have HP := Lib.hid (Parts_any (some ⟨g, o, none⟩) c t w hL (.inr ⟨g, o, rfl, hr⟩) (by omega) (by omega))
  have HSo := fun w1 h1 h2 => sound_any (some ⟨g, o, none⟩) c t w1 h1 h2 (by omega)
  have HSa := fun w1 ad cd h1 h2 => same_any ad (some ⟨g, o, none⟩) cd c t w1 h1 h2 (by omega)
  rw [hn] at HP HSo HSa
  have HL := Lib.hid hL
  have HS : Hid (SlAt w (some ⟨g, o, none⟩) t) := .inr ⟨g, o, rfl, hr⟩
  have HRX := Lib.hid hrx
  have HIR := Lib.hid ihr
  have HSO := Lib.hid HSo
  have HSA := Lib.hid HSa
  have HPL := Lib.hid hpl
  have HT := Lib.hid ht
  have hgl : g < w.heap.size := range_lt hrx (by simp [stepL])
  clear hL hr hrx ihr HSo HSa hpl ht
  have hx1 : (xo == 1) = false := by rcases hop with rfl | rfl <;> rfl
  have hx2 : (xo == 2) = false := by rcases hop with rfl | rfl <;> rfl
  have hx7 : (xo == 7) = false := by rcases hop with rfl | rfl <;> rfl
  have hx3 : (xo == 3) = false := by rcases hop with rfl | rfl <;> rfl
  have hx4 : (xo == 4) = false := by rcases hop with rfl | rfl <;> rfl
  clear hop
  go_enter Tryd.func13, Tryd.ntmps13
  go_wp2_with fail
  refine HP.out.mono ?_
  rintro e w1 ⟨vl, vr, l', r', rfl, hp, hvl, hvr, hb1⟩
  obtain ⟨e1, e2⟩ := HPL.out _ _ hp
  subst l' r'
  obtain ⟨al, cl, rfl, hSl, hcl⟩ := own_sl hvl
  obtain ⟨ar, cr, rfl, hSr, hcr⟩ := own_sl hvr
  simp only [List.length_nil]
  have HSL1 := Lib.hid hSl
  have HSR1 := Lib.hid hSr
  have HB1 := Lib.hid hb1
  clear hvl hvr hSl hSr hp hb1
  go_wp2_with fail
  refine (HSO.out w1 (HL.out.below HB1.out) (HS.out.below HB1.out)).mono ?_
  rintro e w2 ⟨rfl, hb2⟩
  rw [hsb]
  have HRX2 : Hid (w2.rangeAt g (o + n * 6) [.int .i64 xo, .int .i64 xp, .int .i64 xa, .int .i64 xn, .int .i64 xm, .string xt]) := rangeAt_below HRX.out (bel2 HB1.out hb2) hgl
  have HB2 : Hid (Below w.heap.size w w2) := bel2 HB1.out hb2
  have HSL2 := Lib.hid (HSL1.out.below hb2)
  have HSR2 := Lib.hid (HSR1.out.below hb2)
  clear hb2
  go_wp2_with (refine wpList_load_mid (by rfl) 35 (.tmp 27) (by rfl) g (o + n * 6) (by rfl) [.int .i64 xo, .int .i64 xp, .int .i64 xa, .int .i64 xn, .int .i64 xm, .string xt] _ (by exact HRX2.out) Tryd.underlying35 (by rfl) size_S ?_)
  have HLa : Hid (Laid (w2.alloc (stepO ⟨xo, xp, xa, xn, xm, xt⟩))) := (HL.out.below HB2.out).below (belA w2 _)
  have HSRa := Lib.hid (HSR2.out.below (belA w2 (stepO ⟨xo, xp, xa, xn, xm, xt⟩)))
  have HSLa := Lib.hid (HSL2.out.below (belA w2 (stepO ⟨xo, xp, xa, xn, xm, xt⟩)))
  have HBa : Hid (Below w.heap.size w (w2.alloc (stepO ⟨xo, xp, xa, xn, xm, xt⟩))) := bel2 HB2.out (belA w2 _)
  have HCa : Hid ((w2.alloc (stepO ⟨xo, xp, xa, xn, xm, xt⟩)).rangeAt w2.heap.size 0 (stepL ⟨xo, xp, xa, xn, xm, xt⟩) ∧ w2.heap.size < (w2.alloc (stepO ⟨xo, xp, xa, xn, xm, xt⟩)).heap.size) := ⟨fun j u hj => by rw [Nat.zero_add]; exact cellNew w2 _ _ j u (by simpa using hj), by simp⟩
  refine (sound_any ar cr r _ HLa.out HSRa.out (by omega)).mono ?_
  rintro e w3 ⟨rfl, hb3⟩
  rw [hsr]
  have HC3 : Hid (w3.rangeAt w2.heap.size 0 (stepL ⟨xo, xp, xa, xn, xm, xt⟩) ∧ w2.heap.size < w3.heap.size) := ⟨rangeAt_below HCa.out.1 hb3 HCa.out.2, Nat.lt_of_lt_of_le HCa.out.2 hb3.size⟩
  have HB3 : Hid (Below w.heap.size w w3) := bel2 HBa.out hb3
  have HSR3 := Lib.hid (HSRa.out.below hb3)
  have HSL3 := Lib.hid (HSLa.out.below hb3)
  clear hb3
  go_wp2_with fail
  refine (sound_any al cl ([] : List StepD) w3 (HL.out.below HB3.out) HSL3.out (by simp)).mono ?_
  rintro e W ⟨rfl, hb4⟩
  rw [hsl]
  have HC4 : Hid (W.rangeAt w2.heap.size 0 (stepL ⟨xo, xp, xa, xn, xm, xt⟩) ∧ w2.heap.size < W.heap.size) := ⟨rangeAt_below HC3.out.1 hb4 HC3.out.2, Nat.lt_of_lt_of_le HC3.out.2 hb4.size⟩
  have HB4 : Hid (Below w.heap.size w W) := bel2 HB3.out hb4
  have HSR := Lib.hid (HSR3.out.below hb4)
  have HSL := Lib.hid (HSL3.out.below hb4)
  clear hb4
  go_wp2_with fail
  have HE1 := Lib.hid (e1 W)
  have HE2 := Lib.hid (e2 W ⟨xo, xp, xa, xn, xm, xt⟩)
  have HE3 := Lib.hid (e3 W ⟨xo, xp, xa, xn, xm, xt⟩)
  obtain ⟨p00, p01, p02, p03, p04, p05⟩ := six (Below.refl W.heap.size W) HC4.out.1 HC4.out.2
  obtain ⟨q00, q01, q02, q03, q04, q05⟩ := six ((Below.refl W.heap.size W).alloc (Nat.le_refl _) emptyO) HC4.out.1 HC4.out.2
  go_region_law ((first | (refine step_app (.tmp 79) (.tmp 80) (by rfl) (by simp [Region.wanted]) W W.heap.size (emV W.heap.size) [] HE1.out.1 (by simp) HE1.out.2.1 HE1.out.2.2 al 0 cl ([] : List StepD) (HSL.out.below HE1.out.2.1) rfl (by simp only [List.length_append, List.length_nil, List.length_cons] at *; omega) (by simp [Act.eval, Act.put]) (by simp [Act.eval, Act.put]) ?_; intro v1 u1 hO1 hV1 hB1 hZ1 hK1; obtain ⟨p10, p11, p12, p13, p14, p15⟩ := six hB1 HC4.out.1 HC4.out.2) | (refine step_app (.tmp 79) (.tmp 80) (by rfl) (by simp [Region.wanted]) W W.heap.size (emV W.heap.size) [] HE2.out.1 (by simp) HE2.out.2.1 HE2.out.2.2.1 al 0 cl ([] : List StepD) (HSL.out.below HE2.out.2.1) rfl (by simp only [List.length_append, List.length_nil, List.length_cons] at *; omega) (by simp [Act.eval, Act.put]) (by simp [Act.eval, Act.put]) ?_; intro v1 u1 hO1 hV1 hB1 hZ1 hK1; have hL1 := hK1 _ _ HE2.out.2.2.2; obtain ⟨p10, p11, p12, p13, p14, p15⟩ := six hB1 HC4.out.1 HC4.out.2) | (refine step_app (.tmp 79) (.tmp 80) (by rfl) (by simp [Region.wanted]) W W.heap.size (emV (W.heap.size + 1)) [] HE3.out.1 (by simp) HE3.out.2.1 HE3.out.2.2.1 al 0 cl ([] : List StepD) (HSL.out.below HE3.out.2.1) rfl (by simp only [List.length_append, List.length_nil, List.length_cons] at *; omega) (by simp [Act.eval, Act.put]) (by simp [Act.eval, Act.put]) ?_; intro v1 u1 hO1 hV1 hB1 hZ1 hK1; have hL1 := hK1 _ _ HE3.out.2.2.2; obtain ⟨p10, p11, p12, p13, p14, p15⟩ := six hB1 HC4.out.1 HC4.out.2) | (refine step_app (.tmp 81) (.tmp 82) (by rfl) (by simp [Region.wanted]) W W.heap.size v1 _ hO1 hV1 hB1 hZ1 ar r.length cr r (HSR.out.below hB1) rfl (by simp only [List.length_append, List.length_nil, List.length_cons] at *; omega) (by simp [Act.eval, Act.put]) (by simp [Act.eval, Act.put]) ?_; intro v2 u2 hO2 hV2 hB2 hZ2 hK2; (first | (have hL2 := hK2 _ _ hL1) | skip); obtain ⟨p20, p21, p22, p23, p24, p25⟩ := six hB2 HC4.out.1 HC4.out.2) | (refine step_app (.tmp 81) (.tmp 82) (by rfl) (by simp [Region.wanted]) W W.heap.size v1 _ (own_alloc hO1 (stepO ⟨xo, xp, xa, xn, xm, xt⟩)) hV1 (hB1.alloc hZ1 (stepO ⟨xo, xp, xa, xn, xm, xt⟩)) (Nat.le_trans hZ1 (by simp)) ar r.length cr r (HSR.out.below (hB1.alloc hZ1 (stepO ⟨xo, xp, xa, xn, xm, xt⟩))) rfl (by simp only [List.length_append, List.length_nil, List.length_cons] at *; omega) (by simp [Act.eval, Act.put]) (by simp [Act.eval, Act.put]) ?_; intro v2 u2 hO2 hV2 hB2 hZ2 hK2; have hL2 := hK2 _ _ (lit_new hO1 ⟨xo, xp, xa, xn, xm, xt⟩); obtain ⟨p20, p21, p22, p23, p24, p25⟩ := six hB2 HC4.out.1 HC4.out.2) | (refine step_app (.tmp 83) (.tmp 85) (by rfl) (by simp [Region.wanted]) W W.heap.size v2 _ hO2 hV2 hB2 hZ2 _ 1 1 [⟨xo, xp, xa, xn, xm, xt⟩] (LitAt.sl hL2) rfl (by simp only [List.length_append, List.length_nil, List.length_cons] at *; omega) (by simp [Act.eval, Act.put]) (by simp [Act.eval, Act.put]) ?_; intro v3 u3 hO3 hV3 hB3 hZ3 hK3) | (refine step_app (.tmp 83) (.tmp 85) (by rfl) (by simp [Region.wanted]) W W.heap.size v2 _ (own_alloc hO2 (stepO ⟨xo, xp, xa, xn, xm, xt⟩)) hV2 (hB2.alloc hZ2 (stepO ⟨xo, xp, xa, xn, xm, xt⟩)) (Nat.le_trans hZ2 (by simp)) _ 1 1 [⟨xo, xp, xa, xn, xm, xt⟩] (LitAt.sl (lit_new hO2 ⟨xo, xp, xa, xn, xm, xt⟩)) rfl (by simp only [List.length_append, List.length_nil, List.length_cons] at *; omega) (by simp [Act.eval, Act.put]) (by simp [Act.eval, Act.put]) ?_; intro v3 u3 hO3 hV3 hB3 hZ3 hK3)))
  all_goals
    have hO4 : Own u3 W.heap.size v3 t := by
      have h := hO3
      simp only [List.nil_append] at h
      rw [← HT.out] at h
      exact h
    have hsl4 := own_sl hO4
    rw [hn] at hsl4
    obtain ⟨a3, c3, rfl, hS3, hc3⟩ := hsl4
    have HB5 : Hid (Below w.heap.size w u3) := bel2 HB4.out hB3
    have HSR5 := Lib.hid (HSR.out.below hB3)
    have HSL5 := Lib.hid (HSL.out.below hB3)
    have HS5 := Lib.hid hS3
    clear hO1 hO2 hO3 hO4 hK1 hK2 hK3 hB1 hB2 hB3 hV1 hV2 hV3 hS3 p00 p01 p02 p03 p04 p05 q00 q01 q02 q03 q04 q05 p10 p11 p12 p13 p14 p15 p20 p21 p22 p23 p24 p25
    go_wp2_with fail
    refine (HSA.out u3 a3 c3 HS5.out (HS.out.below HB5.out)).mono ?_
    rintro e w5 ⟨rfl, hb5⟩
    have HB6 : Hid (Below w.heap.size w w5) := bel2 HB5.out hb5
    have HSL6 := Lib.hid (HSL5.out.below hb5)
    have HSR6 := Lib.hid (HSR5.out.below hb5)
    clear hb5
    go_wp2_with fail
    refine (HIR.out ar cr w5 (HL.out.below HB6.out) HSR6.out hcr).mono ?_
    rintro e w6 ⟨rfl, hb6⟩
    have HB7 : Hid (Below w.heap.size w w6) := bel2 HB6.out hb6
    have HSL7 := Lib.hid (HSL6.out.below hb6)
    clear hb6
    go_wp2_with fail
    go_ret
    exact ⟨rfl, HB7.out⟩
set_option maxHeartbeats 8000000 in
theorem lawParts_two (t l r : List StepD) (xo xp xa xn xm : Int) (xt : ByteArray) (g o c n : Nat) (w : World) (ht : t = l ++ r ++ [⟨xo, xp, xa, xn, xm, xt⟩]) (hn : t.length = n + 1) (hsb : soundB t = true) (hpl : ∀ l' r', partsS t l' r' → l' = l ∧ r' = r) (hsl : soundB l = true) (hsr : soundB r = true) (hop : xo = 3 ∨ xo = 4) (hlen : n ≤ 254)
    (hr : w.rangeAt g o (stepsL t)) (hrx : w.rangeAt g (o + n * 6) (stepL ⟨xo, xp, xa, xn, xm, xt⟩)) (hL : Laid w) (hc : n + 1 ≤ c)
    (ihl : ∀ a c w, Laid w → SlAt w a l → l.length ≤ c → Calls Tryd.prog 13 #[.slice a l.length c] w (TrueB w))
    (ihr : ∀ a c w, Laid w → SlAt w a r → r.length ≤ c → Calls Tryd.prog 13 #[.slice a r.length c] w (TrueB w)) :
    Calls Tryd.prog 13 #[.slice (some ⟨g, o, none⟩) (n + 1) c] w (TrueB w) := by
  have hlr : l.length + r.length = n := by have := congrArg List.length ht; simp at this; omega
  have HP := Lib.hid (Parts_any (some ⟨g, o, none⟩) c t w hL (.inr ⟨g, o, rfl, hr⟩) (by omega) (by omega))
  have HSo := fun w1 h1 h2 => sound_any (some ⟨g, o, none⟩) c t w1 h1 h2 (by omega)
  have HSa := fun w1 ad cd h1 h2 => same_any ad (some ⟨g, o, none⟩) cd c t w1 h1 h2 (by omega)
  rw [hn] at HP HSo HSa
  have HL := Lib.hid hL
  have HS : Hid (SlAt w (some ⟨g, o, none⟩) t) := .inr ⟨g, o, rfl, hr⟩
  have HRX := Lib.hid hrx
  have HIL := Lib.hid ihl
  have HIR := Lib.hid ihr
  have HSO := Lib.hid HSo
  have HSA := Lib.hid HSa
  have HPL := Lib.hid hpl
  have HT := Lib.hid ht
  have hgl : g < w.heap.size := range_lt hrx (by simp [stepL])
  clear hL hr hrx ihl ihr HSo HSa hpl ht
  have hop' : (xo = 3 ∧ (xo == 3) = true) ∨ (xo = 4 ∧ (xo == 3) = false ∧ (xo == 4) = true) := by
    rcases hop with rfl | rfl
    · exact .inl ⟨rfl, rfl⟩
    · exact .inr ⟨rfl, rfl, rfl⟩
  have hx1 : (xo == 1) = false := by rcases hop with rfl | rfl <;> rfl
  have hx2 : (xo == 2) = false := by rcases hop with rfl | rfl <;> rfl
  have hx7 : (xo == 7) = false := by rcases hop with rfl | rfl <;> rfl
  clear hop
  rcases hop' with ⟨-, hx3⟩ | ⟨-, hx3, hx4⟩
  all_goals
    go_enter Tryd.func13, Tryd.ntmps13
    go_wp2_with fail
    refine HP.out.mono ?_
    rintro e w1 ⟨vl, vr, l', r', rfl, hp, hvl, hvr, hb1⟩
    obtain ⟨e1, e2⟩ := HPL.out _ _ hp
    subst l' r'
    obtain ⟨al, cl, rfl, hSl, hcl⟩ := own_sl hvl
    obtain ⟨ar, cr, rfl, hSr, hcr⟩ := own_sl hvr
    have HSL1 := Lib.hid hSl
    have HSR1 := Lib.hid hSr
    have HB1 := Lib.hid hb1
    clear hvl hvr hSl hSr hp hb1
    go_wp2_with fail
    refine (HSO.out w1 (HL.out.below HB1.out) (HS.out.below HB1.out)).mono ?_
    rintro e w2 ⟨rfl, hb2⟩
    rw [hsb]
    have HRX2 : Hid (w2.rangeAt g (o + n * 6) [.int .i64 xo, .int .i64 xp, .int .i64 xa, .int .i64 xn, .int .i64 xm, .string xt]) := rangeAt_below HRX.out (bel2 HB1.out hb2) hgl
    have HB2 : Hid (Below w.heap.size w w2) := bel2 HB1.out hb2
    have HSL2 := Lib.hid (HSL1.out.below hb2)
    have HSR2 := Lib.hid (HSR1.out.below hb2)
    clear hb2
    go_wp2_with (refine wpList_load_mid (by rfl) 35 (.tmp 27) (by rfl) g (o + n * 6) (by rfl) [.int .i64 xo, .int .i64 xp, .int .i64 xa, .int .i64 xn, .int .i64 xm, .string xt] _ (by exact HRX2.out) Tryd.underlying35 (by rfl) size_S ?_)
    have HLa : Hid (Laid (w2.alloc (stepO ⟨xo, xp, xa, xn, xm, xt⟩))) := (HL.out.below HB2.out).below (belA w2 _)
    have HSRa := Lib.hid (HSR2.out.below (belA w2 (stepO ⟨xo, xp, xa, xn, xm, xt⟩)))
    have HSLa := Lib.hid (HSL2.out.below (belA w2 (stepO ⟨xo, xp, xa, xn, xm, xt⟩)))
    have HBa : Hid (Below w.heap.size w (w2.alloc (stepO ⟨xo, xp, xa, xn, xm, xt⟩))) := bel2 HB2.out (belA w2 _)
    have HCa : Hid ((w2.alloc (stepO ⟨xo, xp, xa, xn, xm, xt⟩)).rangeAt w2.heap.size 0 (stepL ⟨xo, xp, xa, xn, xm, xt⟩) ∧ w2.heap.size < (w2.alloc (stepO ⟨xo, xp, xa, xn, xm, xt⟩)).heap.size) := ⟨fun j u hj => by rw [Nat.zero_add]; exact cellNew w2 _ _ j u (by simpa using hj), by simp⟩
    refine (sound_any ar cr r _ HLa.out HSRa.out (by omega)).mono ?_
    rintro e w3 ⟨rfl, hb3⟩
    rw [hsr]
    have HC3 : Hid (w3.rangeAt w2.heap.size 0 (stepL ⟨xo, xp, xa, xn, xm, xt⟩) ∧ w2.heap.size < w3.heap.size) := ⟨rangeAt_below HCa.out.1 hb3 HCa.out.2, Nat.lt_of_lt_of_le HCa.out.2 hb3.size⟩
    have HB3 : Hid (Below w.heap.size w w3) := bel2 HBa.out hb3
    have HSR3 := Lib.hid (HSRa.out.below hb3)
    have HSL3 := Lib.hid (HSLa.out.below hb3)
    clear hb3
    go_wp2_with fail
    refine (sound_any al cl l w3 (HL.out.below HB3.out) HSL3.out (by omega)).mono ?_
    rintro e W ⟨rfl, hb4⟩
    rw [hsl]
    have HC4 : Hid (W.rangeAt w2.heap.size 0 (stepL ⟨xo, xp, xa, xn, xm, xt⟩) ∧ w2.heap.size < W.heap.size) := ⟨rangeAt_below HC3.out.1 hb4 HC3.out.2, Nat.lt_of_lt_of_le HC3.out.2 hb4.size⟩
    have HB4 : Hid (Below w.heap.size w W) := bel2 HB3.out hb4
    have HSR := Lib.hid (HSR3.out.below hb4)
    have HSL := Lib.hid (HSL3.out.below hb4)
    clear hb4
    go_wp2_with fail
    have HE1 := Lib.hid (e1 W)
    have HE2 := Lib.hid (e2 W ⟨xo, xp, xa, xn, xm, xt⟩)
    have HE3 := Lib.hid (e3 W ⟨xo, xp, xa, xn, xm, xt⟩)
    obtain ⟨p00, p01, p02, p03, p04, p05⟩ := six (Below.refl W.heap.size W) HC4.out.1 HC4.out.2
    obtain ⟨q00, q01, q02, q03, q04, q05⟩ := six ((Below.refl W.heap.size W).alloc (Nat.le_refl _) emptyO) HC4.out.1 HC4.out.2
    go_region_law ((first | (refine step_app (.tmp 79) (.tmp 80) (by rfl) (by simp [Region.wanted]) W W.heap.size (emV W.heap.size) [] HE1.out.1 (by simp) HE1.out.2.1 HE1.out.2.2 al l.length cl l (HSL.out.below HE1.out.2.1) rfl (by simp only [List.length_append, List.length_nil, List.length_cons] at *; omega) (by simp [Act.eval, Act.put]) (by simp [Act.eval, Act.put]) ?_; intro v1 u1 hO1 hV1 hB1 hZ1 hK1; obtain ⟨p10, p11, p12, p13, p14, p15⟩ := six hB1 HC4.out.1 HC4.out.2) | (refine step_app (.tmp 79) (.tmp 80) (by rfl) (by simp [Region.wanted]) W W.heap.size (emV W.heap.size) [] HE2.out.1 (by simp) HE2.out.2.1 HE2.out.2.2.1 al l.length cl l (HSL.out.below HE2.out.2.1) rfl (by simp only [List.length_append, List.length_nil, List.length_cons] at *; omega) (by simp [Act.eval, Act.put]) (by simp [Act.eval, Act.put]) ?_; intro v1 u1 hO1 hV1 hB1 hZ1 hK1; have hL1 := hK1 _ _ HE2.out.2.2.2; obtain ⟨p10, p11, p12, p13, p14, p15⟩ := six hB1 HC4.out.1 HC4.out.2) | (refine step_app (.tmp 79) (.tmp 80) (by rfl) (by simp [Region.wanted]) W W.heap.size (emV (W.heap.size + 1)) [] HE3.out.1 (by simp) HE3.out.2.1 HE3.out.2.2.1 al l.length cl l (HSL.out.below HE3.out.2.1) rfl (by simp only [List.length_append, List.length_nil, List.length_cons] at *; omega) (by simp [Act.eval, Act.put]) (by simp [Act.eval, Act.put]) ?_; intro v1 u1 hO1 hV1 hB1 hZ1 hK1; have hL1 := hK1 _ _ HE3.out.2.2.2; obtain ⟨p10, p11, p12, p13, p14, p15⟩ := six hB1 HC4.out.1 HC4.out.2) | (refine step_app (.tmp 81) (.tmp 82) (by rfl) (by simp [Region.wanted]) W W.heap.size v1 _ hO1 hV1 hB1 hZ1 ar r.length cr r (HSR.out.below hB1) rfl (by simp only [List.length_append, List.length_nil, List.length_cons] at *; omega) (by simp [Act.eval, Act.put]) (by simp [Act.eval, Act.put]) ?_; intro v2 u2 hO2 hV2 hB2 hZ2 hK2; (first | (have hL2 := hK2 _ _ hL1) | skip); obtain ⟨p20, p21, p22, p23, p24, p25⟩ := six hB2 HC4.out.1 HC4.out.2) | (refine step_app (.tmp 81) (.tmp 82) (by rfl) (by simp [Region.wanted]) W W.heap.size v1 _ (own_alloc hO1 (stepO ⟨xo, xp, xa, xn, xm, xt⟩)) hV1 (hB1.alloc hZ1 (stepO ⟨xo, xp, xa, xn, xm, xt⟩)) (Nat.le_trans hZ1 (by simp)) ar r.length cr r (HSR.out.below (hB1.alloc hZ1 (stepO ⟨xo, xp, xa, xn, xm, xt⟩))) rfl (by simp only [List.length_append, List.length_nil, List.length_cons] at *; omega) (by simp [Act.eval, Act.put]) (by simp [Act.eval, Act.put]) ?_; intro v2 u2 hO2 hV2 hB2 hZ2 hK2; have hL2 := hK2 _ _ (lit_new hO1 ⟨xo, xp, xa, xn, xm, xt⟩); obtain ⟨p20, p21, p22, p23, p24, p25⟩ := six hB2 HC4.out.1 HC4.out.2) | (refine step_app (.tmp 83) (.tmp 85) (by rfl) (by simp [Region.wanted]) W W.heap.size v2 _ hO2 hV2 hB2 hZ2 _ 1 1 [⟨xo, xp, xa, xn, xm, xt⟩] (LitAt.sl hL2) rfl (by simp only [List.length_append, List.length_nil, List.length_cons] at *; omega) (by simp [Act.eval, Act.put]) (by simp [Act.eval, Act.put]) ?_; intro v3 u3 hO3 hV3 hB3 hZ3 hK3) | (refine step_app (.tmp 83) (.tmp 85) (by rfl) (by simp [Region.wanted]) W W.heap.size v2 _ (own_alloc hO2 (stepO ⟨xo, xp, xa, xn, xm, xt⟩)) hV2 (hB2.alloc hZ2 (stepO ⟨xo, xp, xa, xn, xm, xt⟩)) (Nat.le_trans hZ2 (by simp)) _ 1 1 [⟨xo, xp, xa, xn, xm, xt⟩] (LitAt.sl (lit_new hO2 ⟨xo, xp, xa, xn, xm, xt⟩)) rfl (by simp only [List.length_append, List.length_nil, List.length_cons] at *; omega) (by simp [Act.eval, Act.put]) (by simp [Act.eval, Act.put]) ?_; intro v3 u3 hO3 hV3 hB3 hZ3 hK3)))
    all_goals
      have hO4 : Own u3 W.heap.size v3 t := by
        have h := hO3
        simp only [List.nil_append] at h
        rw [← HT.out] at h
        exact h
      have hsl4 := own_sl hO4
      rw [hn] at hsl4
      obtain ⟨a3, c3, rfl, hS3, hc3⟩ := hsl4
      have HB5 : Hid (Below w.heap.size w u3) := bel2 HB4.out hB3
      have HSR5 := Lib.hid (HSR.out.below hB3)
      have HSL5 := Lib.hid (HSL.out.below hB3)
      have HS5 := Lib.hid hS3
      clear hO1 hO2 hO3 hO4 hK1 hK2 hK3 hB1 hB2 hB3 hV1 hV2 hV3 hS3 p00 p01 p02 p03 p04 p05 q00 q01 q02 q03 q04 q05 p10 p11 p12 p13 p14 p15 p20 p21 p22 p23 p24 p25
      go_wp2_with fail
      refine (HSA.out u3 a3 c3 HS5.out (HS.out.below HB5.out)).mono ?_
      rintro e w5 ⟨rfl, hb5⟩
      have HB6 : Hid (Below w.heap.size w w5) := bel2 HB5.out hb5
      have HSL6 := Lib.hid (HSL5.out.below hb5)
      have HSR6 := Lib.hid (HSR5.out.below hb5)
      clear hb5
      go_wp2_with fail
      refine (HIR.out ar cr w5 (HL.out.below HB6.out) HSR6.out hcr).mono ?_
      rintro e w6 ⟨rfl, hb6⟩
      have HB7 : Hid (Below w.heap.size w w6) := bel2 HB6.out hb6
      have HSL7 := Lib.hid (HSL6.out.below hb6)
      clear hb6
      go_wp2_with fail
      refine (HIL.out al cl w6 (HL.out.below HB7.out) HSL7.out hcl).mono ?_
      rintro e w7 ⟨rfl, hb7⟩
      go_wp2_with fail
      go_ret
      exact ⟨rfl, bel2 HB7.out hb7⟩
end Go.Proofs.YteiialpecaebdaaDoor
