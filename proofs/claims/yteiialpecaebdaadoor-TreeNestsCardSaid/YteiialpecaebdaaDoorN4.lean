/-
  The law TreeNests: the walk at the op 4.
-/
import Derived.Test.YteiialpecaebdaaDoorNh
set_option linter.unusedVariables false
set_option linter.unusedSimpArgs false
namespace Go.Proofs.YteiialpecaebdaaDoor
open Go.RowKit
open Go.Proofs
open Tree

set_option maxRecDepth 4000 in
set_option maxHeartbeats 16000000 in
theorem nests_4 (so : Int) (a b : Option Addr) (n1 k1 n2 k2 : Nat) (op : Int) (w : World) (hL : Laid w) (hI : IntsIn w a n1 k1) (hJ : IntsIn w b n2 k2) (hso : op % 4 = so - 3) (hs : so = 4) :
    Calls Tryd.prog 6 #[.slice a n1 k1, .slice b n2 k2, .int .i64 op] w (TrueB w) := by
  have HL := Lib.hid hL
  have HI := Lib.hid hI
  have HJ := Lib.hid hJ
  have hrest := Lib.hid (fun w => rest_any op 4 w (by omega) (by omega))
  clear hL hI hJ
  go_enter Tryd.func6, Tryd.ntmps6
  go_wp2_with fail
  refine (awake_any w HL.out).mono ?_
  rintro e w1 ⟨rfl, hb1⟩
  go_wp2_with fail
  refine (made_any a n1 k1 w1 (HI.out.below hb1)).mono ?_
  rintro e w2 ⟨v, T1, rfl, ⟨hT1, hs1⟩, hl1, hO1, hb2⟩
  obtain ⟨a1, c1, rfl, hS1, hc1⟩ := own_sl hO1
  have HB2 : Hid (Below w.heap.size w w2) := bel2 hb1 hb2
  have HX2 := Lib.hid hS1
  clear hb1 hb2 hO1 hS1
  go_wp2_with fail
  refine (made_any b n2 k2 w2 (HJ.out.below HB2.out)).mono ?_
  rintro e w3 ⟨v, T2, rfl, ⟨hT2, hs2⟩, hl2, hO2, hb3⟩
  have HB3 : Hid (Below w.heap.size w w3) := bel2 HB2.out hb3
  have HX3 := Lib.hid (HX2.out.below hb3)
  obtain ⟨g2, c2, rfl⟩ := form_own hO2
  obtain ⟨m, hm⟩ : ∃ m, T2.ser.length = m + 1 := ⟨T2.ser.length - 1, by have := T2.ser_pos; omega⟩
  obtain ⟨_, _, ee, hS2, hc2⟩ := own_sl hO2
  simp only [Value.slice.injEq] at ee
  obtain ⟨rfl, -, rfl⟩ := ee
  have hR2 : w3.rangeAt g2 0 (stepsL T2.ser) := by
    rcases hS2 with h | ⟨_, _, h1, h2⟩
    · have := congrArg List.length h; rw [hm] at this; simp at this
    · simp only [Option.some.injEq, Addr.mk.injEq, and_true] at h1
      obtain ⟨rfl, rfl⟩ := h1
      exact h2
  have hrt : w3.cell? ⟨g2, m * 6, none⟩ = some (.int .i64 T2.root.op) := by have := root_cell hR2 m hm; rwa [Nat.zero_add] at this
  have HY3 := Lib.hid hS2
  have hro := root_ops hT2
  obtain ⟨lo, hlo⟩ : ∃ lo, T2.root.op = lo := ⟨_, rfl⟩
  rw [hlo] at hrt hro
  rw [hm] at hc2 hl2 ⊢
  have HLO := Lib.hid hlo
  have HM := Lib.hid hm
  have HT1 := Lib.hid hT1
  have HT2 := Lib.hid hT2
  have HLE1 : Hid (T1.ser.length ≤ 255) := by show _ ≤ _; omega
  have HLE2 : Hid (T2.ser.length ≤ 255) := by show _ ≤ _; omega
  have HLT : Hid (T1.ser.length + T2.ser.length ≤ 62) := by show _ ≤ _; omega
  have HNE : Hid (∀ w, Laid w → SlAt w (some ⟨g2, 0, none⟩) T2.ser → Calls Tryd.prog 16 #[.slice (some ⟨g2, 0, none⟩) (m + 1) c2] w (NestOk w T2.ser)) := fun w h1 h2 => by have := Nest_any (some ⟨g2, 0, none⟩) c2 T2.ser w h1 h2 (by omega) (by omega); rwa [hm] at this
  clear hb3 hO2 hS2 hR2 hlo hm hT1 hT2 hs1 hs2
  go_wp2_with fail
  refine (hrest.out w3).mono ?_
  rintro e w4 ⟨rfl, hw⟩
  subst w4
  rw [hso]
  have hwr : IntKind.i64.wrap (3 + (so - 3)) = so := by rcases hs with rfl <;> rfl
  have hcl : (3 ≤ lo ∧ lo ≤ 5) ∨ lo < 3 ∨ 6 ≤ lo := by omega
  have HBW : Hid (Below w.heap.size w (w3.alloc (.cells #[.int .i64 so, .int .i64 (-1), .int .i64 0, .int .i64 0, .int .i64 0, .string ⟨#[]⟩] 35))) := bel2 HB3.out (belA w3 _)
  have HX := Lib.hid (HX3.out.below (belA w3 (.cells #[.int .i64 so, .int .i64 (-1), .int .i64 0, .int .i64 0, .int .i64 0, .string ⟨#[]⟩] 35)))
  have HY := Lib.hid (HY3.out.below (belA w3 (.cells #[.int .i64 so, .int .i64 (-1), .int .i64 0, .int .i64 0, .int .i64 0, .string ⟨#[]⟩] 35)))
  have HC : Hid (World.rangeAt (w3.alloc (.cells #[.int .i64 so, .int .i64 (-1), .int .i64 0, .int .i64 0, .int .i64 0, .string ⟨#[]⟩] 35)) w3.heap.size 0 (stepL ⟨so, -1, 0, 0, 0, ⟨#[]⟩⟩) ∧ w3.heap.size < (w3.alloc (.cells #[.int .i64 so, .int .i64 (-1), .int .i64 0, .int .i64 0, .int .i64 0, .string ⟨#[]⟩] 35)).heap.size) := ⟨fun j u hj => by rw [Nat.zero_add]; exact cellNew w3 _ _ j u (by simpa [stepL] using hj), by show _ < Array.size _; simp⟩
  have hrt2 := cell_below hrt (belA w3 (.cells #[.int .i64 so, .int .i64 (-1), .int .i64 0, .int .i64 0, .int .i64 0, .string ⟨#[]⟩] 35))
  clear hrt
  rcases hs with rfl
  · rcases hcl with hcl | hcl | hcl
    · have hin : inB 4 lo = true := inB_in 4 lo hcl
      have HIN := Lib.hid hin
      clear hin
      go_wp2_with fail
      generalize (w3.alloc (.cells #[.int .i64 4, .int .i64 (-1), .int .i64 0, .int .i64 0, .int .i64 0, .string ⟨#[]⟩] 35)) = V at HBW HX HY HC ⊢
      refine (HNE.out V (HL.out.below HBW.out) HY.out).mono ?_
      rintro e W ⟨d, rfl, hd, hbv⟩
      obtain rfl := nest_of HT2.out HLE2.out hd
      have hdb := nestT_bound T2
      rw [HM.out] at hdb
      have HD : Hid (nestT T2 = nestT T2) := rfl
      generalize hd2 : nestT T2 = d at hdb ⊢
      have HDD := Lib.hid hd2
      clear hd hd2
      have HBV := HBW
      have HBW : Hid (Below w.heap.size w W) := bel2 HBV.out hbv
      have HX := Lib.hid (HX.out.below hbv)
      have HY := Lib.hid (HY.out.below hbv)
      have HC : Hid (W.rangeAt w3.heap.size 0 (stepL ⟨4, -1, 0, 0, 0, ⟨#[]⟩⟩) ∧ w3.heap.size < W.heap.size) := ⟨rangeAt_below HC.out.1 hbv HC.out.2, Nat.lt_of_lt_of_le HC.out.2 hbv.size⟩
      clear hbv hrt2
      obtain ⟨p00, p01, p02, p03, p04, p05⟩ := six (Below.refl W.heap.size W) HC.out.1 HC.out.2
      go_wp2_with fail
      have HE1 := Lib.hid (e1 W)
      have HE2 := Lib.hid (e2 W ⟨4, -1, 0, 0, 0, ⟨#[]⟩⟩)
      have HE3 := Lib.hid (e3 W ⟨4, -1, 0, 0, 0, ⟨#[]⟩⟩)
      obtain ⟨q00, q01, q02, q03, q04, q05⟩ := six ((Below.refl W.heap.size W).alloc (Nat.le_refl _) emptyO) HC.out.1 HC.out.2
      go_region_law ((first | (refine step_app (.tmp 63) (.tmp 64) (by rfl) (by simp [Region.wanted]) W W.heap.size (emV W.heap.size) [] HE1.out.1 (by simp) HE1.out.2.1 HE1.out.2.2 a1 T1.ser.length c1 T1.ser (HX.out.below HE1.out.2.1) rfl (by have h1 := HLT.out; have h2 := HM.out; try simp only [List.length_append, List.length_nil, List.length_cons]; omega) (by simp [Act.eval, Act.put]) (by simp [Act.eval, Act.put]) ?_; intro v1 u1 hO1 hV1 hB1 hZ1 hK1; obtain ⟨p10, p11, p12, p13, p14, p15⟩ := six hB1 HC.out.1 HC.out.2) | (refine step_app (.tmp 63) (.tmp 64) (by rfl) (by simp [Region.wanted]) W W.heap.size (emV W.heap.size) [] HE2.out.1 (by simp) HE2.out.2.1 HE2.out.2.2.1 a1 T1.ser.length c1 T1.ser (HX.out.below HE2.out.2.1) rfl (by have h1 := HLT.out; have h2 := HM.out; try simp only [List.length_append, List.length_nil, List.length_cons]; omega) (by simp [Act.eval, Act.put]) (by simp [Act.eval, Act.put]) ?_; intro v1 u1 hO1 hV1 hB1 hZ1 hK1; have hL1 := hK1 _ _ HE2.out.2.2.2; obtain ⟨p10, p11, p12, p13, p14, p15⟩ := six hB1 HC.out.1 HC.out.2) | (refine step_app (.tmp 63) (.tmp 64) (by rfl) (by simp [Region.wanted]) W W.heap.size (emV (W.heap.size + 1)) [] HE3.out.1 (by simp) HE3.out.2.1 HE3.out.2.2.1 a1 T1.ser.length c1 T1.ser (HX.out.below HE3.out.2.1) rfl (by have h1 := HLT.out; have h2 := HM.out; try simp only [List.length_append, List.length_nil, List.length_cons]; omega) (by simp [Act.eval, Act.put]) (by simp [Act.eval, Act.put]) ?_; intro v1 u1 hO1 hV1 hB1 hZ1 hK1; have hL1 := hK1 _ _ HE3.out.2.2.2; obtain ⟨p10, p11, p12, p13, p14, p15⟩ := six hB1 HC.out.1 HC.out.2) | (refine step_app (.tmp 65) (.tmp 66) (by rfl) (by simp [Region.wanted]) W W.heap.size v1 _ hO1 hV1 hB1 hZ1 (some ⟨g2, 0, none⟩) (m + 1) c2 T2.ser (HY.out.below hB1) HM.out (by have h1 := HLT.out; have h2 := HM.out; try simp only [List.length_append, List.length_nil, List.length_cons]; omega) (by simp [Act.eval, Act.put]) (by simp [Act.eval, Act.put]) ?_; intro v2 u2 hO2 hV2 hB2 hZ2 hK2; (first | (have hL2 := hK2 _ _ hL1) | skip); obtain ⟨p20, p21, p22, p23, p24, p25⟩ := six hB2 HC.out.1 HC.out.2) | (refine step_app (.tmp 65) (.tmp 66) (by rfl) (by simp [Region.wanted]) W W.heap.size v1 _ (own_alloc hO1 (stepO ⟨4, -1, 0, 0, 0, ⟨#[]⟩⟩)) hV1 (hB1.alloc hZ1 (stepO ⟨4, -1, 0, 0, 0, ⟨#[]⟩⟩)) (Nat.le_trans hZ1 (by simp)) (some ⟨g2, 0, none⟩) (m + 1) c2 T2.ser (HY.out.below (hB1.alloc hZ1 (stepO ⟨4, -1, 0, 0, 0, ⟨#[]⟩⟩))) HM.out (by have h1 := HLT.out; have h2 := HM.out; try simp only [List.length_append, List.length_nil, List.length_cons]; omega) (by simp [Act.eval, Act.put]) (by simp [Act.eval, Act.put]) ?_; intro v2 u2 hO2 hV2 hB2 hZ2 hK2; have hL2 := hK2 _ _ (lit_new hO1 ⟨4, -1, 0, 0, 0, ⟨#[]⟩⟩); obtain ⟨p20, p21, p22, p23, p24, p25⟩ := six hB2 HC.out.1 HC.out.2) | (refine step_app (.tmp 67) (.tmp 69) (by rfl) (by simp [Region.wanted]) W W.heap.size v2 _ hO2 hV2 hB2 hZ2 _ 1 1 [⟨4, -1, 0, 0, 0, ⟨#[]⟩⟩] (LitAt.sl hL2) rfl (by have h1 := HLT.out; have h2 := HM.out; try simp only [List.length_append, List.length_nil, List.length_cons]; omega) (by simp [Act.eval, Act.put]) (by simp [Act.eval, Act.put]) ?_; intro v3 u3 hO3 hV3 hB3 hZ3 hK3) | (refine step_app (.tmp 67) (.tmp 69) (by rfl) (by simp [Region.wanted]) W W.heap.size v2 _ (own_alloc hO2 (stepO ⟨4, -1, 0, 0, 0, ⟨#[]⟩⟩)) hV2 (hB2.alloc hZ2 (stepO ⟨4, -1, 0, 0, 0, ⟨#[]⟩⟩)) (Nat.le_trans hZ2 (by simp)) _ 1 1 [⟨4, -1, 0, 0, 0, ⟨#[]⟩⟩] (LitAt.sl (lit_new hO2 ⟨4, -1, 0, 0, 0, ⟨#[]⟩⟩)) rfl (by have h1 := HLT.out; have h2 := HM.out; try simp only [List.length_append, List.length_nil, List.length_cons]; omega) (by simp [Act.eval, Act.put]) (by simp [Act.eval, Act.put]) ?_; intro v3 u3 hO3 hV3 hB3 hZ3 hK3)))
      all_goals
        have hO4 : Own u3 W.heap.size v3 (two ⟨4, -1, 0, 0, 0, ⟨#[]⟩⟩ T1 T2).ser := by
          have h := hO3
          simp only [List.nil_append] at h
          exact h
        obtain ⟨a3, c3, rfl, hS3, hc3⟩ := own_sl hO4
        have HB5 : Hid (Below w.heap.size w u3) := bel2 HBW.out hB3
        have HX5 := Lib.hid (HX.out.below hB3)
        have HS5 := Lib.hid hS3
        clear hO1 hO2 hO3 hO4 hK1 hK2 hK3 hB1 hB2 hB3 hV1 hV2 hV3 hS3 p00 p01 p02 p03 p04 p05 q00 q01 q02 q03 q04 q05 p10 p11 p12 p13 p14 p15 p20 p21 p22 p23 p24 p25
        go_wp2_with fail
        refine (Nest_any a3 c3 _ u3 (HL.out.below HB5.out) HS5.out (by have := HLT.out; simp [ser]; omega) hc3).mono ?_
        rintro e w5 ⟨r5, rfl, hr5, hb5⟩
        obtain rfl := nest_of (T := two ⟨4, -1, 0, 0, 0, ⟨#[]⟩⟩ T1 T2) ⟨may_lit 4 (by omega), rfl, HT1.out, HT2.out⟩ (by have := HLT.out; simp [ser]; omega) hr5
        have HB6 : Hid (Below w.heap.size w w5) := bel2 HB5.out hb5
        have HX6 := Lib.hid (HX5.out.below hb5)
        have hne : nestT (two ⟨4, -1, 0, 0, 0, ⟨#[]⟩⟩ T1 T2) = max (d + 1) (nestT T1) := by
          show max (nestT T2 + (if inB 4 T2.root.op then 1 else 0)) (nestT T1) = _
          rw [HDD.out, HLO.out, HIN.out]
          rfl
        rw [hne]
        clear hb5 hr5 hne
        go_wp2_with fail
        refine (Nest_any a1 c1 _ w5 (HL.out.below HB6.out) HX6.out (by have := HLE1.out; omega) hc1).mono ?_
        rintro e w6 ⟨r6, rfl, hr6, hb6⟩
        obtain rfl := nest_of HT1.out HLE1.out hr6
        have hd1 := nestT_bound T1
        generalize nestT T1 = d1 at hd1 ⊢
        clear hr6
        go_wp2_with fail
        all_goals
          go_ret
          refine ⟨?_, bel2 HB6.out hb6⟩
          refine bool_returned ?_
          first | (rw [beq_iff_eq]; omega) | (simp; omega) | simp
    · have hin : inB 4 lo = false := inB_low 4 lo hcl
      have HIN := Lib.hid hin
      clear hin
      go_wp2_with fail
      generalize (w3.alloc (.cells #[.int .i64 4, .int .i64 (-1), .int .i64 0, .int .i64 0, .int .i64 0, .string ⟨#[]⟩] 35)) = V at HBW HX HY HC ⊢
      refine (HNE.out V (HL.out.below HBW.out) HY.out).mono ?_
      rintro e W ⟨d, rfl, hd, hbv⟩
      obtain rfl := nest_of HT2.out HLE2.out hd
      have hdb := nestT_bound T2
      rw [HM.out] at hdb
      have HD : Hid (nestT T2 = nestT T2) := rfl
      generalize hd2 : nestT T2 = d at hdb ⊢
      have HDD := Lib.hid hd2
      clear hd hd2
      have HBV := HBW
      have HBW : Hid (Below w.heap.size w W) := bel2 HBV.out hbv
      have HX := Lib.hid (HX.out.below hbv)
      have HY := Lib.hid (HY.out.below hbv)
      have HC : Hid (W.rangeAt w3.heap.size 0 (stepL ⟨4, -1, 0, 0, 0, ⟨#[]⟩⟩) ∧ w3.heap.size < W.heap.size) := ⟨rangeAt_below HC.out.1 hbv HC.out.2, Nat.lt_of_lt_of_le HC.out.2 hbv.size⟩
      clear hbv hrt2
      obtain ⟨p00, p01, p02, p03, p04, p05⟩ := six (Below.refl W.heap.size W) HC.out.1 HC.out.2
      go_wp2_with fail
      have HE1 := Lib.hid (e1 W)
      have HE2 := Lib.hid (e2 W ⟨4, -1, 0, 0, 0, ⟨#[]⟩⟩)
      have HE3 := Lib.hid (e3 W ⟨4, -1, 0, 0, 0, ⟨#[]⟩⟩)
      obtain ⟨q00, q01, q02, q03, q04, q05⟩ := six ((Below.refl W.heap.size W).alloc (Nat.le_refl _) emptyO) HC.out.1 HC.out.2
      go_region_law ((first | (refine step_app (.tmp 63) (.tmp 64) (by rfl) (by simp [Region.wanted]) W W.heap.size (emV W.heap.size) [] HE1.out.1 (by simp) HE1.out.2.1 HE1.out.2.2 a1 T1.ser.length c1 T1.ser (HX.out.below HE1.out.2.1) rfl (by have h1 := HLT.out; have h2 := HM.out; try simp only [List.length_append, List.length_nil, List.length_cons]; omega) (by simp [Act.eval, Act.put]) (by simp [Act.eval, Act.put]) ?_; intro v1 u1 hO1 hV1 hB1 hZ1 hK1; obtain ⟨p10, p11, p12, p13, p14, p15⟩ := six hB1 HC.out.1 HC.out.2) | (refine step_app (.tmp 63) (.tmp 64) (by rfl) (by simp [Region.wanted]) W W.heap.size (emV W.heap.size) [] HE2.out.1 (by simp) HE2.out.2.1 HE2.out.2.2.1 a1 T1.ser.length c1 T1.ser (HX.out.below HE2.out.2.1) rfl (by have h1 := HLT.out; have h2 := HM.out; try simp only [List.length_append, List.length_nil, List.length_cons]; omega) (by simp [Act.eval, Act.put]) (by simp [Act.eval, Act.put]) ?_; intro v1 u1 hO1 hV1 hB1 hZ1 hK1; have hL1 := hK1 _ _ HE2.out.2.2.2; obtain ⟨p10, p11, p12, p13, p14, p15⟩ := six hB1 HC.out.1 HC.out.2) | (refine step_app (.tmp 63) (.tmp 64) (by rfl) (by simp [Region.wanted]) W W.heap.size (emV (W.heap.size + 1)) [] HE3.out.1 (by simp) HE3.out.2.1 HE3.out.2.2.1 a1 T1.ser.length c1 T1.ser (HX.out.below HE3.out.2.1) rfl (by have h1 := HLT.out; have h2 := HM.out; try simp only [List.length_append, List.length_nil, List.length_cons]; omega) (by simp [Act.eval, Act.put]) (by simp [Act.eval, Act.put]) ?_; intro v1 u1 hO1 hV1 hB1 hZ1 hK1; have hL1 := hK1 _ _ HE3.out.2.2.2; obtain ⟨p10, p11, p12, p13, p14, p15⟩ := six hB1 HC.out.1 HC.out.2) | (refine step_app (.tmp 65) (.tmp 66) (by rfl) (by simp [Region.wanted]) W W.heap.size v1 _ hO1 hV1 hB1 hZ1 (some ⟨g2, 0, none⟩) (m + 1) c2 T2.ser (HY.out.below hB1) HM.out (by have h1 := HLT.out; have h2 := HM.out; try simp only [List.length_append, List.length_nil, List.length_cons]; omega) (by simp [Act.eval, Act.put]) (by simp [Act.eval, Act.put]) ?_; intro v2 u2 hO2 hV2 hB2 hZ2 hK2; (first | (have hL2 := hK2 _ _ hL1) | skip); obtain ⟨p20, p21, p22, p23, p24, p25⟩ := six hB2 HC.out.1 HC.out.2) | (refine step_app (.tmp 65) (.tmp 66) (by rfl) (by simp [Region.wanted]) W W.heap.size v1 _ (own_alloc hO1 (stepO ⟨4, -1, 0, 0, 0, ⟨#[]⟩⟩)) hV1 (hB1.alloc hZ1 (stepO ⟨4, -1, 0, 0, 0, ⟨#[]⟩⟩)) (Nat.le_trans hZ1 (by simp)) (some ⟨g2, 0, none⟩) (m + 1) c2 T2.ser (HY.out.below (hB1.alloc hZ1 (stepO ⟨4, -1, 0, 0, 0, ⟨#[]⟩⟩))) HM.out (by have h1 := HLT.out; have h2 := HM.out; try simp only [List.length_append, List.length_nil, List.length_cons]; omega) (by simp [Act.eval, Act.put]) (by simp [Act.eval, Act.put]) ?_; intro v2 u2 hO2 hV2 hB2 hZ2 hK2; have hL2 := hK2 _ _ (lit_new hO1 ⟨4, -1, 0, 0, 0, ⟨#[]⟩⟩); obtain ⟨p20, p21, p22, p23, p24, p25⟩ := six hB2 HC.out.1 HC.out.2) | (refine step_app (.tmp 67) (.tmp 69) (by rfl) (by simp [Region.wanted]) W W.heap.size v2 _ hO2 hV2 hB2 hZ2 _ 1 1 [⟨4, -1, 0, 0, 0, ⟨#[]⟩⟩] (LitAt.sl hL2) rfl (by have h1 := HLT.out; have h2 := HM.out; try simp only [List.length_append, List.length_nil, List.length_cons]; omega) (by simp [Act.eval, Act.put]) (by simp [Act.eval, Act.put]) ?_; intro v3 u3 hO3 hV3 hB3 hZ3 hK3) | (refine step_app (.tmp 67) (.tmp 69) (by rfl) (by simp [Region.wanted]) W W.heap.size v2 _ (own_alloc hO2 (stepO ⟨4, -1, 0, 0, 0, ⟨#[]⟩⟩)) hV2 (hB2.alloc hZ2 (stepO ⟨4, -1, 0, 0, 0, ⟨#[]⟩⟩)) (Nat.le_trans hZ2 (by simp)) _ 1 1 [⟨4, -1, 0, 0, 0, ⟨#[]⟩⟩] (LitAt.sl (lit_new hO2 ⟨4, -1, 0, 0, 0, ⟨#[]⟩⟩)) rfl (by have h1 := HLT.out; have h2 := HM.out; try simp only [List.length_append, List.length_nil, List.length_cons]; omega) (by simp [Act.eval, Act.put]) (by simp [Act.eval, Act.put]) ?_; intro v3 u3 hO3 hV3 hB3 hZ3 hK3)))
      all_goals
        have hO4 : Own u3 W.heap.size v3 (two ⟨4, -1, 0, 0, 0, ⟨#[]⟩⟩ T1 T2).ser := by
          have h := hO3
          simp only [List.nil_append] at h
          exact h
        obtain ⟨a3, c3, rfl, hS3, hc3⟩ := own_sl hO4
        have HB5 : Hid (Below w.heap.size w u3) := bel2 HBW.out hB3
        have HX5 := Lib.hid (HX.out.below hB3)
        have HS5 := Lib.hid hS3
        clear hO1 hO2 hO3 hO4 hK1 hK2 hK3 hB1 hB2 hB3 hV1 hV2 hV3 hS3 p00 p01 p02 p03 p04 p05 q00 q01 q02 q03 q04 q05 p10 p11 p12 p13 p14 p15 p20 p21 p22 p23 p24 p25
        go_wp2_with fail
        refine (Nest_any a3 c3 _ u3 (HL.out.below HB5.out) HS5.out (by have := HLT.out; simp [ser]; omega) hc3).mono ?_
        rintro e w5 ⟨r5, rfl, hr5, hb5⟩
        obtain rfl := nest_of (T := two ⟨4, -1, 0, 0, 0, ⟨#[]⟩⟩ T1 T2) ⟨may_lit 4 (by omega), rfl, HT1.out, HT2.out⟩ (by have := HLT.out; simp [ser]; omega) hr5
        have HB6 : Hid (Below w.heap.size w w5) := bel2 HB5.out hb5
        have HX6 := Lib.hid (HX5.out.below hb5)
        have hne : nestT (two ⟨4, -1, 0, 0, 0, ⟨#[]⟩⟩ T1 T2) = max (d + 0) (nestT T1) := by
          show max (nestT T2 + (if inB 4 T2.root.op then 1 else 0)) (nestT T1) = _
          rw [HDD.out, HLO.out, HIN.out]
          rfl
        rw [hne]
        clear hb5 hr5 hne
        go_wp2_with fail
        refine (Nest_any a1 c1 _ w5 (HL.out.below HB6.out) HX6.out (by have := HLE1.out; omega) hc1).mono ?_
        rintro e w6 ⟨r6, rfl, hr6, hb6⟩
        obtain rfl := nest_of HT1.out HLE1.out hr6
        have hd1 := nestT_bound T1
        generalize nestT T1 = d1 at hd1 ⊢
        clear hr6
        go_wp2_with fail
        all_goals
          go_ret
          refine ⟨?_, bel2 HB6.out hb6⟩
          refine bool_returned ?_
          first | (rw [beq_iff_eq]; omega) | (simp; omega) | simp
    · have hin : inB 4 lo = false := inB_high 4 lo hcl hro.2
      have HIN := Lib.hid hin
      clear hin
      go_wp2_with fail
      generalize (w3.alloc (.cells #[.int .i64 4, .int .i64 (-1), .int .i64 0, .int .i64 0, .int .i64 0, .string ⟨#[]⟩] 35)) = V at HBW HX HY HC ⊢
      refine (HNE.out V (HL.out.below HBW.out) HY.out).mono ?_
      rintro e W ⟨d, rfl, hd, hbv⟩
      obtain rfl := nest_of HT2.out HLE2.out hd
      have hdb := nestT_bound T2
      rw [HM.out] at hdb
      have HD : Hid (nestT T2 = nestT T2) := rfl
      generalize hd2 : nestT T2 = d at hdb ⊢
      have HDD := Lib.hid hd2
      clear hd hd2
      have HBV := HBW
      have HBW : Hid (Below w.heap.size w W) := bel2 HBV.out hbv
      have HX := Lib.hid (HX.out.below hbv)
      have HY := Lib.hid (HY.out.below hbv)
      have HC : Hid (W.rangeAt w3.heap.size 0 (stepL ⟨4, -1, 0, 0, 0, ⟨#[]⟩⟩) ∧ w3.heap.size < W.heap.size) := ⟨rangeAt_below HC.out.1 hbv HC.out.2, Nat.lt_of_lt_of_le HC.out.2 hbv.size⟩
      clear hbv hrt2
      obtain ⟨p00, p01, p02, p03, p04, p05⟩ := six (Below.refl W.heap.size W) HC.out.1 HC.out.2
      go_wp2_with fail
      have HE1 := Lib.hid (e1 W)
      have HE2 := Lib.hid (e2 W ⟨4, -1, 0, 0, 0, ⟨#[]⟩⟩)
      have HE3 := Lib.hid (e3 W ⟨4, -1, 0, 0, 0, ⟨#[]⟩⟩)
      obtain ⟨q00, q01, q02, q03, q04, q05⟩ := six ((Below.refl W.heap.size W).alloc (Nat.le_refl _) emptyO) HC.out.1 HC.out.2
      go_region_law ((first | (refine step_app (.tmp 63) (.tmp 64) (by rfl) (by simp [Region.wanted]) W W.heap.size (emV W.heap.size) [] HE1.out.1 (by simp) HE1.out.2.1 HE1.out.2.2 a1 T1.ser.length c1 T1.ser (HX.out.below HE1.out.2.1) rfl (by have h1 := HLT.out; have h2 := HM.out; try simp only [List.length_append, List.length_nil, List.length_cons]; omega) (by simp [Act.eval, Act.put]) (by simp [Act.eval, Act.put]) ?_; intro v1 u1 hO1 hV1 hB1 hZ1 hK1; obtain ⟨p10, p11, p12, p13, p14, p15⟩ := six hB1 HC.out.1 HC.out.2) | (refine step_app (.tmp 63) (.tmp 64) (by rfl) (by simp [Region.wanted]) W W.heap.size (emV W.heap.size) [] HE2.out.1 (by simp) HE2.out.2.1 HE2.out.2.2.1 a1 T1.ser.length c1 T1.ser (HX.out.below HE2.out.2.1) rfl (by have h1 := HLT.out; have h2 := HM.out; try simp only [List.length_append, List.length_nil, List.length_cons]; omega) (by simp [Act.eval, Act.put]) (by simp [Act.eval, Act.put]) ?_; intro v1 u1 hO1 hV1 hB1 hZ1 hK1; have hL1 := hK1 _ _ HE2.out.2.2.2; obtain ⟨p10, p11, p12, p13, p14, p15⟩ := six hB1 HC.out.1 HC.out.2) | (refine step_app (.tmp 63) (.tmp 64) (by rfl) (by simp [Region.wanted]) W W.heap.size (emV (W.heap.size + 1)) [] HE3.out.1 (by simp) HE3.out.2.1 HE3.out.2.2.1 a1 T1.ser.length c1 T1.ser (HX.out.below HE3.out.2.1) rfl (by have h1 := HLT.out; have h2 := HM.out; try simp only [List.length_append, List.length_nil, List.length_cons]; omega) (by simp [Act.eval, Act.put]) (by simp [Act.eval, Act.put]) ?_; intro v1 u1 hO1 hV1 hB1 hZ1 hK1; have hL1 := hK1 _ _ HE3.out.2.2.2; obtain ⟨p10, p11, p12, p13, p14, p15⟩ := six hB1 HC.out.1 HC.out.2) | (refine step_app (.tmp 65) (.tmp 66) (by rfl) (by simp [Region.wanted]) W W.heap.size v1 _ hO1 hV1 hB1 hZ1 (some ⟨g2, 0, none⟩) (m + 1) c2 T2.ser (HY.out.below hB1) HM.out (by have h1 := HLT.out; have h2 := HM.out; try simp only [List.length_append, List.length_nil, List.length_cons]; omega) (by simp [Act.eval, Act.put]) (by simp [Act.eval, Act.put]) ?_; intro v2 u2 hO2 hV2 hB2 hZ2 hK2; (first | (have hL2 := hK2 _ _ hL1) | skip); obtain ⟨p20, p21, p22, p23, p24, p25⟩ := six hB2 HC.out.1 HC.out.2) | (refine step_app (.tmp 65) (.tmp 66) (by rfl) (by simp [Region.wanted]) W W.heap.size v1 _ (own_alloc hO1 (stepO ⟨4, -1, 0, 0, 0, ⟨#[]⟩⟩)) hV1 (hB1.alloc hZ1 (stepO ⟨4, -1, 0, 0, 0, ⟨#[]⟩⟩)) (Nat.le_trans hZ1 (by simp)) (some ⟨g2, 0, none⟩) (m + 1) c2 T2.ser (HY.out.below (hB1.alloc hZ1 (stepO ⟨4, -1, 0, 0, 0, ⟨#[]⟩⟩))) HM.out (by have h1 := HLT.out; have h2 := HM.out; try simp only [List.length_append, List.length_nil, List.length_cons]; omega) (by simp [Act.eval, Act.put]) (by simp [Act.eval, Act.put]) ?_; intro v2 u2 hO2 hV2 hB2 hZ2 hK2; have hL2 := hK2 _ _ (lit_new hO1 ⟨4, -1, 0, 0, 0, ⟨#[]⟩⟩); obtain ⟨p20, p21, p22, p23, p24, p25⟩ := six hB2 HC.out.1 HC.out.2) | (refine step_app (.tmp 67) (.tmp 69) (by rfl) (by simp [Region.wanted]) W W.heap.size v2 _ hO2 hV2 hB2 hZ2 _ 1 1 [⟨4, -1, 0, 0, 0, ⟨#[]⟩⟩] (LitAt.sl hL2) rfl (by have h1 := HLT.out; have h2 := HM.out; try simp only [List.length_append, List.length_nil, List.length_cons]; omega) (by simp [Act.eval, Act.put]) (by simp [Act.eval, Act.put]) ?_; intro v3 u3 hO3 hV3 hB3 hZ3 hK3) | (refine step_app (.tmp 67) (.tmp 69) (by rfl) (by simp [Region.wanted]) W W.heap.size v2 _ (own_alloc hO2 (stepO ⟨4, -1, 0, 0, 0, ⟨#[]⟩⟩)) hV2 (hB2.alloc hZ2 (stepO ⟨4, -1, 0, 0, 0, ⟨#[]⟩⟩)) (Nat.le_trans hZ2 (by simp)) _ 1 1 [⟨4, -1, 0, 0, 0, ⟨#[]⟩⟩] (LitAt.sl (lit_new hO2 ⟨4, -1, 0, 0, 0, ⟨#[]⟩⟩)) rfl (by have h1 := HLT.out; have h2 := HM.out; try simp only [List.length_append, List.length_nil, List.length_cons]; omega) (by simp [Act.eval, Act.put]) (by simp [Act.eval, Act.put]) ?_; intro v3 u3 hO3 hV3 hB3 hZ3 hK3)))
      all_goals
        have hO4 : Own u3 W.heap.size v3 (two ⟨4, -1, 0, 0, 0, ⟨#[]⟩⟩ T1 T2).ser := by
          have h := hO3
          simp only [List.nil_append] at h
          exact h
        obtain ⟨a3, c3, rfl, hS3, hc3⟩ := own_sl hO4
        have HB5 : Hid (Below w.heap.size w u3) := bel2 HBW.out hB3
        have HX5 := Lib.hid (HX.out.below hB3)
        have HS5 := Lib.hid hS3
        clear hO1 hO2 hO3 hO4 hK1 hK2 hK3 hB1 hB2 hB3 hV1 hV2 hV3 hS3 p00 p01 p02 p03 p04 p05 q00 q01 q02 q03 q04 q05 p10 p11 p12 p13 p14 p15 p20 p21 p22 p23 p24 p25
        go_wp2_with fail
        refine (Nest_any a3 c3 _ u3 (HL.out.below HB5.out) HS5.out (by have := HLT.out; simp [ser]; omega) hc3).mono ?_
        rintro e w5 ⟨r5, rfl, hr5, hb5⟩
        obtain rfl := nest_of (T := two ⟨4, -1, 0, 0, 0, ⟨#[]⟩⟩ T1 T2) ⟨may_lit 4 (by omega), rfl, HT1.out, HT2.out⟩ (by have := HLT.out; simp [ser]; omega) hr5
        have HB6 : Hid (Below w.heap.size w w5) := bel2 HB5.out hb5
        have HX6 := Lib.hid (HX5.out.below hb5)
        have hne : nestT (two ⟨4, -1, 0, 0, 0, ⟨#[]⟩⟩ T1 T2) = max (d + 0) (nestT T1) := by
          show max (nestT T2 + (if inB 4 T2.root.op then 1 else 0)) (nestT T1) = _
          rw [HDD.out, HLO.out, HIN.out]
          rfl
        rw [hne]
        clear hb5 hr5 hne
        go_wp2_with fail
        refine (Nest_any a1 c1 _ w5 (HL.out.below HB6.out) HX6.out (by have := HLE1.out; omega) hc1).mono ?_
        rintro e w6 ⟨r6, rfl, hr6, hb6⟩
        obtain rfl := nest_of HT1.out HLE1.out hr6
        have hd1 := nestT_bound T1
        generalize nestT T1 = d1 at hd1 ⊢
        clear hr6
        go_wp2_with fail
        all_goals
          go_ret
          refine ⟨?_, bel2 HB6.out hb6⟩
          refine bool_returned ?_
          first | (rw [beq_iff_eq]; omega) | (simp; omega) | simp
end Go.Proofs.YteiialpecaebdaaDoor
