/-
  symbol: a symbol's text; is it told; the book of a notation. symbol: told; the book of a notation. symbol: the book of a notation.
-/
import Derived.Test.YtaakaajcpjiccaaDoorNa18
set_option linter.unusedVariables false
set_option linter.unusedSimpArgs false
namespace Go.Proofs.YtaakaajcpjiccaaDoor
open Go.RowKit
open Go.Proofs

theorem textF_0 {m a : Nat} : textF m 0 a = codeAt a m := by unfold textF; rw [if_pos (.inl rfl)]
theorem textF_e {m q a : Nat} (h : (codeAt a m).isEmpty = true) : textF m q a = codeAt a m := by unfold textF; rw [if_pos (.inr h)]
theorem textF_n {m p a : Nat} (h : (codeAt a m).isEmpty = false) (h2 : (preCodeAt p m).isEmpty = true ∨ (rowAt a).metric = false) : textF m (p + 1) a = [] := by
  unfold textF
  rw [if_neg (by rw [h]; simp), if_pos (by simpa using h2)]
theorem textF_y {m p a : Nat} (h : (codeAt a m).isEmpty = false) (h2 : (preCodeAt p m).isEmpty = false) (h3 : (rowAt a).metric = true) : textF m (p + 1) a = preCodeAt p m ++ codeAt a m := by
  unfold textF
  rw [if_neg (by rw [h]; simp), if_neg (by rw [Nat.add_sub_cancel, h2, h3]; simp)]
  rfl
theorem backB (c : ByteArray) : (⟨c.toList.toArray⟩ : ByteArray) = c := by rw [ByteArray.toList_eq]
theorem toList_size (c : ByteArray) : c.toList.length = c.size := by rw [ByteArray.toList_eq]; rfl
theorem toList_cat (a b : ByteArray) : (a ++ b).toList = a.toList ++ b.toList := by
  rw [ByteArray.toList_eq, ByteArray.toList_eq, ByteArray.toList_eq, ByteArray.data_append, Array.toList_append]
theorem cat_back (a b : ByteArray) : (⟨(a.toList ++ b.toList).toArray⟩ : ByteArray) = a ++ b := by rw [← toList_cat, backB]
theorem bytes_inj {a b : ByteArray} (h : a.toList = b.toList) : a = b := by
  rw [ByteArray.toList_eq, ByteArray.toList_eq] at h
  cases a; cases b
  simpa using h
set_option maxRecDepth 100000 in
set_option maxHeartbeats 4000000 in
theorem text_any (g c1 g2 c2 m q a : Nat) (ss : Nat → Value) (w : World) (hm : m < 5) (hq : q < 21) (ha : a < 48) (hB : BookIn w g g2 ss) :
    Calls Tryd.prog 68 #[bookV g c1 g2 c2 m, .int .i64 ((q : Int) - 1), .int .i64 (a : Int)] w fun e w' => e = .returned (.string ⟨(textF m q a).toArray⟩) ∧ Below w.heap.size w w' := by
  have hb0 := blkNew w #[.slice (some ⟨g, 0, none⟩) 48 c1, .slice (some ⟨g2, 0, none⟩) 20 c2, .int .i64 ((m : Int) + 1)] 91
  have w2 : Below w.heap.size w (w.alloc (.cells #[.slice (some ⟨g, 0, none⟩) 48 c1, .slice (some ⟨g2, 0, none⟩) 20 c2, .int .i64 ((m : Int) + 1)] 91)) := (Below.refl _ _).alloc (Nat.le_refl _) _
  have W2 := Lib.hid w2
  have HB := Lib.hid (hB.below w2)
  have b0 := cellB hb0 (j := 0) rfl
  have b1 := cellB hb0 (j := 1) rfl
  have b2 := cellB hb0 (j := 2) rfl
  have hlt2 : w.heap.size < (w.alloc (.cells #[.slice (some ⟨g, 0, none⟩) 48 c1, .slice (some ⟨g2, 0, none⟩) 20 c2, .int .i64 ((m : Int) + 1)] 91)).heap.size := by simp
  clear hB w2 hb0
  have v1 : IntKind.i64.wrap (m : Int) = (m : Int) := IntWalk.i64_in _ (by omega)
  have v2 : (m : Int) < 5 := by omega
  have v3 : 0 ≤ (m : Int) := by omega
  have a48 : (a : Int) < 48 := by omega
  have a0 : 0 ≤ (a : Int) := by omega
  have hq0 : -1 ≤ (q : Int) - 1 := by omega
  have hq20 : (q : Int) - 1 < 20 := by omega
  obtain ⟨qi, hqi⟩ : ∃ z : Int, (q : Int) - 1 = z := ⟨_, rfl⟩
  rw [hqi] at hq0 hq20 ⊢
  have HQ := Lib.hid hqi
  clear hqi
  have HROW := Lib.hid (atomD_range HB.out.atoms a (by rw [tabD_length]; exact ha))
  rw [tabD_getE, Nat.zero_add] at HROW
  obtain ⟨x, hx⟩ : ∃ x, rowD ss a = x := ⟨_, rfl⟩
  rw [hx] at HROW
  have HC : Hid ((codesA x m).toList = codeAt a m) := by show _ = _; rw [← hx, codesA_rowD ss a m hm, ByteArray.toList_eq]
  have HM : Hid (x.metric = (rowAt a).metric) := by show _ = _; rw [← hx]; rfl
  have hcm := codesA_cell x m hm
  clear hx
  obtain ⟨cd, hcd⟩ : ∃ c, codesA x m = c := ⟨_, rfl⟩
  rw [hcd] at hcm HC
  clear hcd
  obtain ⟨x0, x1, x2, x3, x4, xm, xt, xb, xn, xd, xe, xa, xl, xc⟩ := x
  have HM2 : Hid (xm = (rowAt a).metric) := HM.out
  simp only [atomL] at hcm HROW
  clear HM
  have hq1 : (qi == -1) = (q == 0) := by rw [← HQ.out, Bool.eq_iff_iff]; simp only [beq_iff_eq]; omega
  by_cases hq0 : q = 0
  · subst hq0
    have e : qi = -1 := by rw [← HQ.out]; rfl
    subst e
    go_enter Tryd.func68, Tryd.ntmps68
    go_wp2_with (first | (refine wpList_load_mid rfl 124 _ rfl g _ rfl _ _ HROW.out Tryd.underlying124 rfl size_Atom ?_; generalize w.alloc (.cells #[.slice (some ⟨g, 0, none⟩) 48 c1, .slice (some ⟨g2, 0, none⟩) 20 c2, .int .i64 ((m : Int) + 1)] 91) = V at W2 HB b0 b1 b2 hlt2 HROW ⊢; have hcell := cellNew V #[Value.string x0, .string x1, .string x2, .string x3, .string x4, .bool xm, .int .i64 xt, .int .i64 xb, .int .i64 xn, .int .i64 xd, .int .i64 xe, .slice xa xl xc] 124 m _ (by simpa using hcm); have hmc := cellNew V #[Value.string x0, .string x1, .string x2, .string x3, .string x4, .bool xm, .int .i64 xt, .int .i64 xb, .int .i64 xn, .int .i64 xd, .int .i64 xe, .slice xa xl xc] 124 5 _ rfl; have d0 := cellAlloc (.cells #[Value.string x0, .string x1, .string x2, .string x3, .string x4, .bool xm, .int .i64 xt, .int .i64 xb, .int .i64 xn, .int .i64 xd, .int .i64 xe, .slice xa xl xc] 124) b0; have d1 := cellAlloc (.cells #[Value.string x0, .string x1, .string x2, .string x3, .string x4, .bool xm, .int .i64 xt, .int .i64 xb, .int .i64 xn, .int .i64 xd, .int .i64 xe, .slice xa xl xc] 124) b1; have d2 := cellAlloc (.cells #[Value.string x0, .string x1, .string x2, .string x3, .string x4, .bool xm, .int .i64 xt, .int .i64 xb, .int .i64 xn, .int .i64 xd, .int .i64 xe, .slice xa xl xc] 124) b2; have W3 := Lib.hid (W2.out.alloc W2.out.size (.cells #[Value.string x0, .string x1, .string x2, .string x3, .string x4, .bool xm, .int .i64 xt, .int .i64 xb, .int .i64 xn, .int .i64 xd, .int .i64 xe, .slice xa xl xc] 124)); have HB3 := Lib.hid (HB.out.below ((Below.refl _ _).alloc (Nat.le_refl _) (.cells #[Value.string x0, .string x1, .string x2, .string x3, .string x4, .bool xm, .int .i64 xt, .int .i64 xb, .int .i64 xn, .int .i64 xd, .int .i64 xe, .slice xa xl xc] 124)))) | fail)
    go_ret
    exact ⟨by rw [textF_0, ← HC.out, backB]; rfl, W3.out⟩
  · have hqf : (q == 0) = false := by simpa using hq0
    rw [hqf] at hq1
    cases hce : cd.toList.isEmpty with
    | true =>
      have HT : Hid (textF m q a = cd.toList) := by show _ = _; rw [textF_e (by rw [← HC.out]; exact hce), HC.out]
      go_enter Tryd.func68, Tryd.ntmps68
      go_wp2_with (first | (refine wpList_load_mid rfl 124 _ rfl g _ rfl _ _ HROW.out Tryd.underlying124 rfl size_Atom ?_; generalize w.alloc (.cells #[.slice (some ⟨g, 0, none⟩) 48 c1, .slice (some ⟨g2, 0, none⟩) 20 c2, .int .i64 ((m : Int) + 1)] 91) = V at W2 HB b0 b1 b2 hlt2 HROW ⊢; have hcell := cellNew V #[Value.string x0, .string x1, .string x2, .string x3, .string x4, .bool xm, .int .i64 xt, .int .i64 xb, .int .i64 xn, .int .i64 xd, .int .i64 xe, .slice xa xl xc] 124 m _ (by simpa using hcm); have hmc := cellNew V #[Value.string x0, .string x1, .string x2, .string x3, .string x4, .bool xm, .int .i64 xt, .int .i64 xb, .int .i64 xn, .int .i64 xd, .int .i64 xe, .slice xa xl xc] 124 5 _ rfl; have d0 := cellAlloc (.cells #[Value.string x0, .string x1, .string x2, .string x3, .string x4, .bool xm, .int .i64 xt, .int .i64 xb, .int .i64 xn, .int .i64 xd, .int .i64 xe, .slice xa xl xc] 124) b0; have d1 := cellAlloc (.cells #[Value.string x0, .string x1, .string x2, .string x3, .string x4, .bool xm, .int .i64 xt, .int .i64 xb, .int .i64 xn, .int .i64 xd, .int .i64 xe, .slice xa xl xc] 124) b1; have d2 := cellAlloc (.cells #[Value.string x0, .string x1, .string x2, .string x3, .string x4, .bool xm, .int .i64 xt, .int .i64 xb, .int .i64 xn, .int .i64 xd, .int .i64 xe, .slice xa xl xc] 124) b2; have W3 := Lib.hid (W2.out.alloc W2.out.size (.cells #[Value.string x0, .string x1, .string x2, .string x3, .string x4, .bool xm, .int .i64 xt, .int .i64 xb, .int .i64 xn, .int .i64 xd, .int .i64 xe, .slice xa xl xc] 124)); have HB3 := Lib.hid (HB.out.below ((Below.refl _ _).alloc (Nat.le_refl _) (.cells #[Value.string x0, .string x1, .string x2, .string x3, .string x4, .bool xm, .int .i64 xt, .int .i64 xb, .int .i64 xn, .int .i64 xd, .int .i64 xe, .slice xa xl xc] 124)))) | fail)
      go_ret
      exact ⟨by rw [HT.out, backB]; rfl, W3.out⟩
    | false =>
      obtain ⟨p, rfl⟩ : ∃ p, q = p + 1 := ⟨q - 1, by omega⟩
      have e : qi = (p : Int) := by rw [← HQ.out]; omega
      subst e
      go_enter Tryd.func68, Tryd.ntmps68
      go_wp2_with (first | (refine wpList_load_mid rfl 124 _ rfl g _ rfl _ _ HROW.out Tryd.underlying124 rfl size_Atom ?_; generalize w.alloc (.cells #[.slice (some ⟨g, 0, none⟩) 48 c1, .slice (some ⟨g2, 0, none⟩) 20 c2, .int .i64 ((m : Int) + 1)] 91) = V at W2 HB b0 b1 b2 hlt2 HROW ⊢; have hcell := cellNew V #[Value.string x0, .string x1, .string x2, .string x3, .string x4, .bool xm, .int .i64 xt, .int .i64 xb, .int .i64 xn, .int .i64 xd, .int .i64 xe, .slice xa xl xc] 124 m _ (by simpa using hcm); have hmc := cellNew V #[Value.string x0, .string x1, .string x2, .string x3, .string x4, .bool xm, .int .i64 xt, .int .i64 xb, .int .i64 xn, .int .i64 xd, .int .i64 xe, .slice xa xl xc] 124 5 _ rfl; have d0 := cellAlloc (.cells #[Value.string x0, .string x1, .string x2, .string x3, .string x4, .bool xm, .int .i64 xt, .int .i64 xb, .int .i64 xn, .int .i64 xd, .int .i64 xe, .slice xa xl xc] 124) b0; have d1 := cellAlloc (.cells #[Value.string x0, .string x1, .string x2, .string x3, .string x4, .bool xm, .int .i64 xt, .int .i64 xb, .int .i64 xn, .int .i64 xd, .int .i64 xe, .slice xa xl xc] 124) b1; have d2 := cellAlloc (.cells #[Value.string x0, .string x1, .string x2, .string x3, .string x4, .bool xm, .int .i64 xt, .int .i64 xb, .int .i64 xn, .int .i64 xd, .int .i64 xe, .slice xa xl xc] 124) b2; have W3 := Lib.hid (W2.out.alloc W2.out.size (.cells #[Value.string x0, .string x1, .string x2, .string x3, .string x4, .bool xm, .int .i64 xt, .int .i64 xb, .int .i64 xn, .int .i64 xd, .int .i64 xe, .slice xa xl xc] 124)); have HB3 := Lib.hid (HB.out.below ((Below.refl _ _).alloc (Nat.le_refl _) (.cells #[Value.string x0, .string x1, .string x2, .string x3, .string x4, .bool xm, .int .i64 xt, .int .i64 xb, .int .i64 xn, .int .i64 xd, .int .i64 xe, .slice xa xl xc] 124)))) | fail)
      have hp20 : p < 20 := by omega
      have hpr := pres_row HB3.out.pres p hp20 m _ (preCode_cell p m hm)
      rw [Nat.zero_add] at hpr
      obtain ⟨pd, hpd⟩ : ∃ c : ByteArray, (⟨(preCodeAt p m).toArray⟩ : ByteArray) = c := ⟨_, rfl⟩
      have HPD : Hid (pd.toList = preCodeAt p m) := by show _ = _; rw [← hpd, ByteArray.toList_eq]
      rw [hpd] at hpr
      clear hpd
      generalize V.alloc (.cells _ 124) = U at hcell hmc d0 d1 d2 W3 HB3 hpr ⊢
      go_quiet (fail)
      have WN := Lib.hid (W3.out.trans ((below_drewN (Below.refl U.heap.size U) nq).mono W3.out.size))
      have hmN : (U.drewN nq).cell? ⟨V.heap.size, 5, none⟩ = some (.bool xm) := by simpa using hmc
      clear hcell hmc d0 d1 d2 b0 b1 b2 hpr
      generalize U.drewN nq = X at WN hmN ⊢
      have HCE : Hid ((codeAt a m).isEmpty = false) := by show _ = _; rw [← HC.out]; exact hce
      cases hpe : pd.toList.isEmpty with
      | true =>
        have HT : Hid (textF m (p + 1) a = []) := textF_n HCE.out (.inl (by rw [← HPD.out]; exact hpe))
        go_wp2_with fail
        go_ret
        exact ⟨by rw [HT.out]; rfl, WN.out⟩
      | false =>
        have HPE : Hid ((preCodeAt p m).isEmpty = false) := by show _ = _; rw [← HPD.out]; exact hpe
        cases xm with
        | false =>
          have HT : Hid (textF m (p + 1) a = []) := textF_n HCE.out (.inr HM2.out.symm)
          go_wp2_with fail
          go_ret
          exact ⟨by rw [HT.out]; rfl, WN.out⟩
        | true =>
          have HT : Hid (textF m (p + 1) a = pd.toList ++ cd.toList) := by show _ = _; rw [textF_y HCE.out HPE.out HM2.out.symm, HPD.out, HC.out]
          have hsz : ¬9223372036854775807 < pd.size + cd.size := by
            have h1 := codeAt_short' a ha m hm
            have h2 := preCode_short' p hp20 m hm
            rw [← HC.out] at h1
            rw [← HPD.out] at h2
            rw [← toList_size, ← toList_size]
            omega
          go_wp2_with fail
          go_ret
          exact ⟨by rw [HT.out, cat_back]; rfl, WN.out⟩
end Go.Proofs.YtaakaajcpjiccaaDoor
namespace Go.Proofs.YtaakaajcpjiccaaDoor
open Go.RowKit
open Go.Proofs

def toldV (m q a : Nat) : Value := .tuple #[.string ⟨(textF m q a).toArray⟩, .bool (toldF m q a)]
theorem toldF_eq (m q a : Nat) : toldF m q a = (!(textF m q a).isEmpty && match findF m (textF m q a) with | some (p, b) => p == ((q : Int) - 1) && ((b : Int) == (a : Int)) | none => false) := by
  unfold toldF
  cases findF m (textF m q a) with
  | none => rfl
  | some x =>
    obtain ⟨p, b⟩ := x
    congr 1
    rw [Bool.eq_iff_iff]
    simp only [beq_iff_eq, Bool.and_eq_true, Option.some.injEq, Prod.mk.injEq]
    omega
set_option maxRecDepth 100000 in
set_option maxHeartbeats 4000000 in
theorem told_any (g c1 g2 c2 m q a : Nat) (ss : Nat → Value) (w : World) (hm : m < 5) (hq : q < 21) (ha : a < 48) (hB : BookIn w g g2 ss) :
    Calls Tryd.prog 46 #[bookV g c1 g2 c2 m, .int .i64 ((q : Int) - 1), .int .i64 (a : Int)] w fun e w' => e = .returned (toldV m q a) ∧ Below w.heap.size w w' := by
  have hb0 := blkNew w #[.slice (some ⟨g, 0, none⟩) 48 c1, .slice (some ⟨g2, 0, none⟩) 20 c2, .int .i64 ((m : Int) + 1)] 91
  have w2 : Below w.heap.size w (w.alloc (.cells #[.slice (some ⟨g, 0, none⟩) 48 c1, .slice (some ⟨g2, 0, none⟩) 20 c2, .int .i64 ((m : Int) + 1)] 91)) := (Below.refl _ _).alloc (Nat.le_refl _) _
  have W2 := Lib.hid w2
  have HB := Lib.hid (hB.below w2)
  have HK := Lib.hid hb0
  have b0 := cellB hb0 (j := 0) rfl
  have b1 := cellB hb0 (j := 1) rfl
  have b2 := cellB hb0 (j := 2) rfl
  clear hB w2 hb0
  have HE := Lib.hid (toldF_eq m q a)
  obtain ⟨qi, hqi⟩ : ∃ z : Int, (q : Int) - 1 = z := ⟨_, rfl⟩
  rw [hqi] at HE
  have HT : Hid (∀ w, BookIn w g g2 ss → Calls Tryd.prog 68 #[bookV g c1 g2 c2 m, .int .i64 qi, .int .i64 (a : Int)] w fun e w' => e = .returned (.string ⟨(textF m q a).toArray⟩) ∧ Below w.heap.size w w') := by
    intro w hB
    rw [← hqi]
    exact text_any g c1 g2 c2 m q a ss w hm hq ha hB
  have HTV : Hid (toldV m q a = .tuple #[.string ⟨(textF m q a).toArray⟩, .bool (toldF m q a)]) := rfl
  rw [hqi]
  clear hqi
  obtain ⟨tx, htx⟩ : ∃ c : ByteArray, (⟨(textF m q a).toArray⟩ : ByteArray) = c := ⟨_, rfl⟩
  have htl : tx.toList = textF m q a := by rw [← htx, ByteArray.toList_eq]
  rw [htx] at HT HTV
  rw [← htl] at HE
  clear htx htl
  go_enter Tryd.func46, Tryd.ntmps46
  go_wp2_with fail
  generalize w.alloc (.cells #[.slice (some ⟨g, 0, none⟩) 48 c1, .slice (some ⟨g2, 0, none⟩) 20 c2, .int .i64 ((m : Int) + 1)] 91) = V at W2 HB HK b0 b1 b2 ⊢
  refine (HT.out _ HB.out).mono ?_
  rintro e w1 ⟨rfl, hb1⟩
  have W1 := Lib.hid (W2.out.trans (hb1.mono W2.out.size))
  have HB1 := Lib.hid (HB.out.below hb1)
  have HK1 := Lib.hid (blkUnder HK.out hb1)
  have d0 := cellB HK1.out (j := 0) rfl
  have d1 := cellB HK1.out (j := 1) rfl
  have d2 := cellB HK1.out (j := 2) rfl
  clear hb1 b0 b1 b2
  go_wp2_with fail
  refine (find_any g c1 g2 c2 m ss tx w1 hm HB1.out).mono ?_
  rintro e w3 ⟨rfl, hb3⟩
  have W3 := Lib.hid (W1.out.trans (hb3.mono W1.out.size))
  clear hb3 d0 d1 d2
  cases hf : findF m tx.toList with
  | none =>
    have HE2 : Hid (toldF m q a = false) := by show _ = _; rw [HE.out, hf, Bool.and_false]
    clear hf
    unfold findV
    cases he : tx.toList.isEmpty <;> (go_wp2_with fail; go_ret2; exact ⟨by rw [HTV.out, HE2.out]; rfl, W3.out⟩)
  | some x =>
    obtain ⟨p, b⟩ := x
    have HE2 : Hid (toldF m q a = (!tx.toList.isEmpty && (p == qi && ((b : Int) == (a : Int))))) := by show _ = _; rw [HE.out, hf]
    clear hf
    simp only [findV]
    cases he : tx.toList.isEmpty with
    | true =>
      have HE3 : Hid (toldF m q a = false) := by show _ = _; rw [HE2.out, he]; rfl
      go_wp2_with fail
      go_ret2
      exact ⟨by rw [HTV.out, HE3.out]; rfl, W3.out⟩
    | false =>
      cases h1 : (p == qi) with
      | false =>
        have HE3 : Hid (toldF m q a = false) := by show _ = _; rw [HE2.out, he, h1]; rfl
        go_wp2_with fail
        go_ret2
        exact ⟨by rw [HTV.out, HE3.out]; rfl, W3.out⟩
      | true =>
        have HE3 : Hid (toldF m q a = ((b : Int) == (a : Int))) := by show _ = _; rw [HE2.out, he, h1]; rfl
        cases h2 : ((b : Int) == (a : Int)) with
        | true =>
          have HE4 : Hid (toldF m q a = true) := by show _ = _; rw [HE3.out, h2]
          go_wp2_with fail
          go_ret2
          exact ⟨by rw [HTV.out, HE4.out]; rfl, W3.out⟩
        | false =>
          have HE4 : Hid (toldF m q a = false) := by show _ = _; rw [HE3.out, h2]
          go_wp2_with fail
          go_ret2
          exact ⟨by rw [HTV.out, HE4.out]; rfl, W3.out⟩
end Go.Proofs.YtaakaajcpjiccaaDoor
namespace Go.Proofs.YtaakaajcpjiccaaDoor
open Go.RowKit
open Go.Proofs

/-- The block k holds cells of the type t. -/
def BlockT (w : World) (k : Nat) (t : TypeId) : Prop := ∃ cs fr, w.heap[k]? = some (.cells cs t fr)
theorem BlockT.below {w w' : World} {k : Nat} {t : TypeId} (h : BlockT w k t) (hb : Below w.heap.size w w') : BlockT w' k t := by
  obtain ⟨cs, fr, h⟩ := h
  exact ⟨cs, fr, blkUnder h hb⟩
theorem BlockT.set {w : World} {k b i : Nat} {t : TypeId} {v : Value} (h : BlockT w k t) (hn : k ≠ b) : BlockT (w.setCell ⟨b, i, none⟩ v) k t := by
  obtain ⟨cs, fr, h⟩ := h
  exact ⟨cs, fr, (Below.heap_setCell w ⟨b, i, none⟩ v k hn).trans h⟩
theorem block_of_row {w : World} {B : Nat} {e : TypeId} {z n g c : Nat} {xs : List Value} (h : w.ownsRow B e z (.slice (some ⟨g, 0, none⟩) n c) n xs) : BlockT w g e := by
  rcases h.2 with ⟨h1, _⟩ | ⟨g2, cap2, cur, h1, _, hgb, _⟩
  · cases h1
  · cases h1
    exact ⟨_, _, hgb⟩
/-- atoms.Table's answer as a book's. -/
def TabB (w : World) (e : Ending) (w' : World) : Prop := ∃ g c1 g2 c2 ss, e = .returned (.agg #[.slice (some ⟨g, 0, none⟩) 48 c1, .slice (some ⟨g2, 0, none⟩) 20 c2]) ∧ BookIn w' g g2 ss ∧ w.heap.size ≤ g ∧ w.heap.size ≤ g2 ∧ (BlockT w' g 124 ∧ BlockT w' g2 145) ∧ Below w.heap.size w w'
theorem tab_book (w : World) (hL : Laid w) : Calls Tryd.prog 66 #[] w (TabB w) := (tab_ok w hL).mono fun e w' h => by
  obtain ⟨g, c1, a2, c2, ss, rfl, hr, hg, ht, hb⟩ := h
  obtain ⟨g2, cap, hg2⟩ := form_of ht.pres (by omega)
  simp only [Value.slice.injEq] at hg2
  obtain ⟨rfl, -, rfl⟩ := hg2
  have hp := rangeOf ht.pres 0 (20 * 6) (presV tabPres) (by
    rw [List.drop_zero, List.take_of_length_le]
    decide +kernel)
  have h2 := (World.ownsRow.lt ht.pres g2 rfl).1
  refine ⟨g, c1, g2, c2, ss, rfl, ⟨hr, ?_, hp, ?_⟩, hg, h2, ⟨block_of_row ht.atoms, block_of_row ht.pres⟩, hb⟩
  · exact range_lt hr (fun h => by have := atomsL_length (tabD ss); rw [h, tabD_length] at this; simp at this)
  · exact range_lt hp (by decide +kernel)
theorem laid_under {w w' : World} (h : Laid w) (hb : Below w.heap.size w w') : Laid w' := fun j u hu => cell_under (h j u hu) hb
theorem set_someQ {W : World} {p a : Addr} {v : Value} (h : (W.cell? a).isSome = true) : ((W.setCell p v).cell? a).isSome = true := by
  by_cases e : p = a
  · subst e
    rw [World.cell?_setCell_same' _ _ _ h]; rfl
  · rw [World.cell?_setCell_other (h := e)]; exact h
theorem ne_offQ {b i j : Nat} (h : i ≠ j) : (⟨b, i, none⟩ : Addr) ≠ ⟨b, j, none⟩ := fun e => h (Addr.mk.inj e).2.1
/-- The cells of a block written one by one. -/
def setRowLQ (b : Nat) : Nat → List Value → World → World
  | _, [], W => W
  | j, v :: l, W => setRowLQ b (j + 1) l (W.setCell ⟨b, j, none⟩ v)
theorem setRowL_belowQ (b : Nat) : ∀ (l : List Value) (j i : Nat) (W : World), i < j → (setRowLQ b j l W).cell? ⟨b, i, none⟩ = W.cell? ⟨b, i, none⟩
  | [], _, _, _, _ => rfl
  | v :: l, j, i, W, h => by
    rw [setRowLQ, setRowL_belowQ b l (j + 1) i _ (by omega)]
    exact World.cell?_setCell_other (h := ne_offQ (by omega)) ..
theorem setRowL_rangeQ (b : Nat) : ∀ (l : List Value) (j : Nat) (W : World), (∀ i, j ≤ i → i < j + l.length → (W.cell? ⟨b, i, none⟩).isSome = true) → (setRowLQ b j l W).rangeAt b j l
  | [], _, _, _ => fun i u hu => by cases hu
  | v :: l, j, W, h => fun i u hu => by
    rcases i with _ | i
    · simp only [List.getElem?_cons_zero, Option.some.injEq] at hu
      subst hu
      show (setRowLQ b (j + 1) l (W.setCell ⟨b, j, none⟩ v)).cell? ⟨b, j, none⟩ = _
      rw [setRowL_belowQ b l (j + 1) j _ (by omega)]
      exact World.cell?_setCell_same' _ _ _ (h j (Nat.le_refl _) (by simp))
    · rw [List.getElem?_cons_succ] at hu
      have := setRowL_rangeQ b l (j + 1) (W.setCell ⟨b, j, none⟩ v) (fun k h1 h2 => set_someQ (h k (by omega) (by simp only [List.length_cons]; omega))) i u hu
      rw [setRowLQ, show j + (i + 1) = j + 1 + i by omega]
      exact this
theorem results_row2Q {fn : Func} {p u : Tmp} {ty : TypeId} (h : fn.results = #[.cell p ty, .tmp u]) (tmps : Array Value) (w : World) (b : Nat) (cs : List Value) (d : TypeDesc)
    (hp : tmps.getD p undef = .pointer (some ⟨b, 0, none⟩)) (hc : w.rangeAt b 0 cs) (hu : Tryd.prog.underlying ty = some d) (hd : d.isRow = true) (hi : (Tryd.prog.info? ty).map (·.size) = some cs.length) :
    (results fn tmps).run Tryd.prog w = .ok (.tuple #[.agg cs.toArray, tmps.getD u undef]) w := by
  rw [results_cell_tmp h, hp]
  simp [asAddr, Result.andThen, run_loadVar_mid w b 0 ty cs d hc hu hd hi]
theorem range_far {w : World} {b g o : Nat} {cs : List Value} {i : Nat} {v : Value} (h : w.rangeAt g o cs) (hn : g ≠ b) : (w.setCell ⟨b, i, none⟩ v).rangeAt g o cs := fun j u hj => by
  rw [World.cell?_setCell_other (h := fun e => hn (Addr.mk.inj e).1.symm)]
  exact h j u hj
theorem book_set {w : World} {b g g2 : Nat} {ss : Nat → Value} {v0 v1 v2 : Value} (hg : b + 1 ≤ g) (hg2 : b + 1 ≤ g2) (h : BookIn w g g2 ss) : BookIn (((w.setCell ⟨b, 0, none⟩ v0).setCell ⟨b, 1, none⟩ v1).setCell ⟨b, 2, none⟩ v2) g g2 ss :=
  ⟨range_far (range_far (range_far h.atoms (by omega)) (by omega)) (by omega), by simpa using h.glt, range_far (range_far (range_far h.pres (by omega)) (by omega)) (by omega), by simpa using h.g2lt⟩
def BookOk (n : Int) (w : World) (e : Ending) (w' : World) : Prop := ∃ g c1 g2 c2 ss, e = .returned (.tuple #[.agg #[.slice (some ⟨g, 0, none⟩) 48 c1, .slice (some ⟨g2, 0, none⟩) 20 c2, .int .i64 n], .bool (decide (1 ≤ n ∧ n ≤ 5))]) ∧ BookIn w' g g2 ss ∧ w.heap.size ≤ g ∧ w.heap.size ≤ g2 ∧ (BlockT w' g 124 ∧ BlockT w' g2 145) ∧ Below w.heap.size w w'
set_option maxRecDepth 100000 in
set_option maxHeartbeats 4000000 in
theorem open_any (n : Int) (w : World) (hL : Laid w) : Calls Tryd.prog 44 #[.int .i64 n] w (BookOk n w) := by
  have wA : Below w.heap.size w (w.alloc (.cells #[.slice none 0 0, .slice none 0 0, .int .i64 0] 91)) := (Below.refl _ _).alloc (Nat.le_refl _) _
  have HT := Lib.hid (tab_book (w.alloc (.cells #[.slice none 0 0, .slice none 0 0, .int .i64 0] 91)) (laid_under hL wA))
  have hN := blkNew w #[.slice none 0 0, .slice none 0 0, .int .i64 0] 91
  have WA := Lib.hid wA
  clear wA
  go_enter Tryd.func44, Tryd.ntmps44
  go_wp2_with fail
  refine HT.out.mono ?_
  rintro e w1 ⟨g, c1, g2, c2, ss, rfl, hB, hg, hg2, hT, hb1⟩
  have HTT := Lib.hid hT
  have HB := Lib.hid hB
  rw [World.size_alloc] at hg hg2
  have W1 := Lib.hid (WA.out.trans (hb1.mono WA.out.size))
  have hk := blkUnder hN hb1
  clear hB hb1 hN hT
  have f0 := freeB hk (j := 0)
  have f1 := freeB hk (j := 1)
  have f2 := freeB hk (j := 2)
  have c0 := cellB hk (j := 0) rfl
  have c1' := cellB hk (j := 1) rfl
  have c2' := cellB hk (j := 2) rfl
  by_cases hn1 : 1 ≤ n
  · have HD : Hid (decide (1 ≤ n ∧ n ≤ 5) = decide (n ≤ 5)) := by show _ = _; simp [hn1]
    go_wp2_with fail
    refine bodyPost_ret (v := .tuple #[.agg #[.slice (some ⟨g, 0, none⟩) 48 c1, .slice (some ⟨g2, 0, none⟩) 20 c2, .int .i64 n], .bool (decide (n ≤ 5))]) (results_row2Q Tryd.results44 _ _ w.heap.size [_, _, _] _ rfl (setRowL_rangeQ w.heap.size [_, _, _] 0 _ (fun i h1 h2 => by
      have h3 : i = 0 ∨ i = 1 ∨ i = 2 := by simp only [List.length_cons, List.length_nil] at h2; omega
      rcases h3 with rfl | rfl | rfl
      · rw [c0]; rfl
      · rw [c1']; rfl
      · rw [c2']; rfl)) Tryd.underlying91 rfl (by kernel_rfl)) rfl ?_
    refine ⟨g, c1, g2, c2, ss, by rw [HD.out], ?_, by omega, by omega, ⟨((HTT.out.1.set (by omega)).set (by omega)).set (by omega), ((HTT.out.2.set (by omega)).set (by omega)).set (by omega)⟩, ?_⟩
    · exact book_set hg hg2 HB.out
    · exact ((W1.out.setCell (p := ⟨w.heap.size, 0, none⟩) (Nat.le_refl _) _).setCell (p := ⟨w.heap.size, 1, none⟩) (Nat.le_refl _) _).setCell (p := ⟨w.heap.size, 2, none⟩) (Nat.le_refl _) _
  · have HD : Hid (decide (1 ≤ n ∧ n ≤ 5) = false) := by show _ = _; simp [hn1]
    have hn2 : n < 1 := by omega
    go_wp2_with fail
    refine bodyPost_ret (v := .tuple #[.agg #[.slice (some ⟨g, 0, none⟩) 48 c1, .slice (some ⟨g2, 0, none⟩) 20 c2, .int .i64 n], .bool false]) (results_row2Q Tryd.results44 _ _ w.heap.size [_, _, _] _ rfl (setRowL_rangeQ w.heap.size [_, _, _] 0 _ (fun i h1 h2 => by
      have h3 : i = 0 ∨ i = 1 ∨ i = 2 := by simp only [List.length_cons, List.length_nil] at h2; omega
      rcases h3 with rfl | rfl | rfl
      · rw [c0]; rfl
      · rw [c1']; rfl
      · rw [c2']; rfl)) Tryd.underlying91 rfl (by kernel_rfl)) rfl ?_
    refine ⟨g, c1, g2, c2, ss, by rw [HD.out], ?_, by omega, by omega, ⟨((HTT.out.1.set (by omega)).set (by omega)).set (by omega), ((HTT.out.2.set (by omega)).set (by omega)).set (by omega)⟩, ?_⟩
    · exact book_set hg hg2 HB.out
    · exact ((W1.out.setCell (p := ⟨w.heap.size, 0, none⟩) (Nat.le_refl _) _).setCell (p := ⟨w.heap.size, 1, none⟩) (Nat.le_refl _) _).setCell (p := ⟨w.heap.size, 2, none⟩) (Nat.le_refl _) _
end Go.Proofs.YtaakaajcpjiccaaDoor
