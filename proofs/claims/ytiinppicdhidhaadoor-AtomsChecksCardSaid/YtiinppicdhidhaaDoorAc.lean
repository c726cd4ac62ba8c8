/-
  The law AtomsChecks: the walk.
-/
import Derived.Test.YtiinppicdhidhaaDoorRck
import Derived.Test.YtiinppicdhidhaaDoorSs
import Derived.Test.YtiinppicdhidhaaDoorAa
set_option linter.unusedVariables false
set_option linter.unusedSimpArgs false
namespace Go.Proofs.YtiinppicdhidhaaDoor
open Go.RowKit
open Go.Proofs

structure TurnD where
  how : Int
  at_ : Int
  nn : Int
  text : ByteArray
def turnL (x : TurnD) : List Value := [.int .i64 x.how, .int .i64 x.at_, .int .i64 x.nn, .string x.text]
def TurnFine (x : TurnD) : Prop := x.text.size ≤ maxLen ∧ (-9223372036854775808 ≤ x.at_ ∧ x.at_ ≤ 9223372036854775807) ∧ (-9223372036854775808 ≤ x.nn ∧ x.nn ≤ 9223372036854775807)
/-- The table in its box ahead of round k. -/
def CkB (bt : Nat) (k : Nat) (W : World) : Prop := ∃ a c t T a2 c2 p, W.heap[bt]? = some (.cells #[.slice a t.length c, .slice a2 p.length c2] 27 (0, 0)) ∧ TabK W a t T a2 p (48 + 120 * k) 20 (9 + k)
theorem TabIn.drew {w : World} {a : Option Addr} {t : List AtomD} {T : Nat → List (Int × Int)} {a2 : Option Addr} {p : List PrefD} (h : TabIn w a t T a2 p) : TabIn w.drew a t T a2 p := h.below ((Below.refl _ _).drew)
/-- What region 6 leaves. -/
def MidC (w : World) (bt k : Nat) (q : Array Value) (W : World) : Prop := W.heap[w.heap.size]? = some (.cells q 41 (0, 0)) ∧ CkB bt (k + 1) W ∧ Below w.heap.size w W
theorem mid_fin {w W W' : World} {bt k : Nat} {q : Array Value} {a a' : Option Addr} {c c' : Nat} {t t' : List AtomD} {T' : Nat → List (Int × Int)} {a2 a2' : Option Addr} {c2 c2' : Nat} {p p' : List PrefD}
    (hQ : W.heap[w.heap.size]? = some (.cells q 41 (0, 0))) (hB : W.heap[bt]? = some (.cells #[.slice a t.length c, .slice a2 p.length c2] 27 (0, 0))) (hT : TabK W' a' t' T' a2' p' (48 + 120 * k + 120) 20 (9 + k + 1)) (hb : Below W.heap.size W W') (hbw : Below w.heap.size w W) (hlt : w.heap.size < bt) :
    MidC w bt k q ((W'.setCell ⟨bt, 0, none⟩ (.slice a' t'.length c')).setCell ⟨bt, 1, none⟩ (.slice a2' p'.length c2')) := by
  have hB' := blkUnder hB hb
  have hg := grownTrans (grownBy_setCell W' ⟨bt, 0, none⟩ (.slice a' t'.length c')) (grownBy_setCell _ ⟨bt, 1, none⟩ (.slice a2' p'.length c2'))
  refine ⟨(blk2_other hB' hlt _ _).trans (blkUnder hQ hb), ⟨a', c', t', T', a2', c2', p', blk2_told hB' _ _, (hT.box hB' hg).mono (by omega) (Nat.le_refl _) (by omega)⟩, ?_⟩
  exact ((hbw.trans (hb.mono hbw.size)).setCell (p := ⟨bt, 0, none⟩) (Nat.le_of_lt hlt) _).setCell (p := ⟨bt, 1, none⟩) (Nat.le_of_lt hlt) _
theorem tab_empty (W : World) : TabIn W none [] (fun _ => []) none [] :=
  ⟨.inl rfl, fun i h => by simp at h, fun i h => by simp at h, fun i j => by
    refine size_short _ (fun j hj => ?_) (codesA_high _) j
    rcases j with _ | _ | _ | _ | _ | j <;> first | exact Nat.zero_le _ | omega, .inl rfl, fun i j => by
    refine size_short _ (fun j hj => ?_) (codesP_high _) j
    rcases j with _ | _ | _ | _ | _ | j <;> first | exact Nat.zero_le _ | omega⟩
theorem check_empty : checkS [] (fun _ => []) [] = -1 := by
  rw [checkS, if_neg (by simp)]
  rfl
set_option maxRecDepth 100000 in
set_option maxHeartbeats 8000000 in
theorem atomsChecks_any (x0 x1 x2 : TurnD) (w : World) (hL : Laid w) (hN : NotesAt w) (hF : TensAt w) (h0 : TurnFine x0) (h1 : TurnFine x1) (h2 : TurnFine x2) :
    Calls Tryd.prog 4 #[.agg #[.int .i64 x0.how, .int .i64 x0.at_, .int .i64 x0.nn, .string x0.text, .int .i64 x1.how, .int .i64 x1.at_, .int .i64 x1.nn, .string x1.text, .int .i64 x2.how, .int .i64 x2.at_, .int .i64 x2.nn, .string x2.text]] w fun e w' => e = .returned (.bool true) ∧ Below w.heap.size w w' := by
  obtain ⟨y0, i0, n0, s0⟩ := x0
  obtain ⟨y1, i1, n1, s1⟩ := x1
  obtain ⟨y2, i2, n2, s2⟩ := x2
  simp only
  have HL := Lib.hid hL
  have HN := Lib.hid hN
  have HF := Lib.hid hF
  have H0 := Lib.hid h0
  have H1 := Lib.hid h1
  have H2 := Lib.hid h2
  clear hL hN hF h0 h1 h2
  go_enter Tryd.func4, Tryd.ntmps4
  go_wp2_with fail
  refine (awake_any _ (laid_below HL.out ((Below.refl _ _).alloc (Nat.le_refl _) _)) (notes_below HN.out ((Below.refl _ _).alloc (Nat.le_refl _) _)) (tens_below HF.out ((Below.refl _ _).alloc (Nat.le_refl _) _))).mono ?_
  rintro e w1 ⟨rfl, hb1⟩
  have HQ1 := Lib.hid (blkUnder (blkNew w _ _) hb1)
  have W1 := Lib.hid (((Below.refl w.heap.size w).alloc (Nat.le_refl _) _).trans (hb1.mono (by simp)))
  clear hb1
  go_wp2_with fail
  refine (ref_any _).mono ?_
  intro e w2 hr
  obtain ⟨g, c, a2, c2, sr, rfl, hT, hb2⟩ := hr
  have HQ2 := Lib.hid (blkUnder HQ1.out hb2)
  have W2 := Lib.hid (W1.out.trans (hb2.mono W1.out.size))
  have HTK := Lib.hid hT
  have hw2 : w.heap.size < w2.heap.size := (Array.getElem?_eq_some_iff.1 HQ2.out).1
  clear hb2 HQ1 W1 hT
  go_wp2_with fail
  go_loopw [5] (fun i wr => ∃ k : Nat, k ≤ 3 ∧ i = .int .i64 (k : Int) ∧ wr.heap[w.heap.size]? = some (.cells #[.int .i64 y0, .int .i64 i0, .int .i64 n0, .string s0, .int .i64 y1, .int .i64 i1, .int .i64 n1, .string s1, .int .i64 y2, .int .i64 i2, .int .i64 n2, .string s2] 41 (0, 0)) ∧ CkB w2.heap.size k wr ∧ Below w.heap.size w wr) (fun i _ => 3 - (intOf i).toNat)
  case atStart =>
    refine ⟨0, by omega, rfl, blkAlloc _ HQ2.out, ⟨_, c, tabD sr, tabT, a2, c2, presD, ?_, (HTK.out.below ((Below.refl _ _).alloc (Nat.le_refl _) _)).mono (by omega) (Nat.le_refl _) (by omega)⟩, W2.out.alloc W2.out.size _⟩
    rw [tabD_length, presD_length]
    exact heap_alloc_new w2 _
  case round =>
    obtain ⟨k, hk, rfl, hQ, hC, hbw⟩ := hrel
    have HQ := Lib.hid hQ
    have HBW := Lib.hid hbw
    clear hQ hbw
    by_cases hlt : k < 3
    · obtain ⟨a, c', t, T, a2', c2', p, hB, hTK⟩ := hC
      have HB := Lib.hid hB
      have HT := Lib.hid hTK
      have ql : w2.heap.size < wr.heap.size := (Array.getElem?_eq_some_iff.1 hB).1
      have q0 := cellB hB (j := 0) rfl
      have q1 := cellB hB (j := 1) rfl
      clear hB hTK
      obtain ⟨y, i, n, s, hyy⟩ : ∃ y i n s, (k = 0 ∧ y = y0 ∧ i = i0 ∧ n = n0 ∧ s = s0) ∨ (k = 1 ∧ y = y1 ∧ i = i1 ∧ n = n1 ∧ s = s1) ∨ (k = 2 ∧ y = y2 ∧ i = i2 ∧ n = n2 ∧ s = s2) := by
        have : k = 0 ∨ k = 1 ∨ k = 2 := by omega
        rcases this with rfl | rfl | rfl
        · exact ⟨_, _, _, _, .inl ⟨rfl, rfl, rfl, rfl, rfl⟩⟩
        · exact ⟨_, _, _, _, .inr (.inl ⟨rfl, rfl, rfl, rfl, rfl⟩)⟩
        · exact ⟨_, _, _, _, .inr (.inr ⟨rfl, rfl, rfl, rfl, rfl⟩)⟩
      have HTF : Hid (TurnFine ⟨y, i, n, s⟩) := by
        show TurnFine _
        rcases hyy with ⟨_, rfl, rfl, rfl, rfl⟩ | ⟨_, rfl, rfl, rfl, rfl⟩ | ⟨_, rfl, rfl, rfl, rfl⟩
        · exact H0.out
        · exact H1.out
        · exact H2.out
      have hcells : (wr.cell? ⟨w.heap.size, k * 4, none⟩ = some (.int .i64 y) ∧ wr.cell? ⟨w.heap.size, k * 4 + 1, none⟩ = some (.int .i64 i)) ∧ wr.cell? ⟨w.heap.size, k * 4 + 2, none⟩ = some (.int .i64 n) ∧ wr.cell? ⟨w.heap.size, k * 4 + 3, none⟩ = some (.string s) := by
        rcases hyy with ⟨rfl, rfl, rfl, rfl, rfl⟩ | ⟨rfl, rfl, rfl, rfl, rfl⟩ | ⟨rfl, rfl, rfl, rfl, rfl⟩
        · exact ⟨⟨cellB HQ.out rfl, cellB HQ.out rfl⟩, cellB HQ.out rfl, cellB HQ.out rfl⟩
        · exact ⟨⟨cellB HQ.out rfl, cellB HQ.out rfl⟩, cellB HQ.out rfl, cellB HQ.out rfl⟩
        · exact ⟨⟨cellB HQ.out rfl, cellB HQ.out rfl⟩, cellB HQ.out rfl, cellB HQ.out rfl⟩
      clear hyy
      obtain ⟨⟨c0, c1⟩, c3, c4⟩ := hcells
      have hk3 : (k : Int) < 3 := by omega
      have hLTB : Hid (w.heap.size < w2.heap.size) := hw2
      go_wp2_with fail
      go_still_tail 4, (by kernel_rfl)
      go_wp2_with fail
      refine (spoilt_any t.length p.length a c' t T a2' c2' p (48 + 120 * k) 20 (9 + k) y i n s _ rfl rfl (HT.out.below ((Below.refl _ _).drew)) (by omega) (by omega) (by omega) HTF.out.1 HTF.out.2.1 HTF.out.2.2).mono ?_
      intro e w3 h3
      obtain ⟨ta, tc, t', T', ta2, tc2, p', rfl, hT3, hb3⟩ := h3
      have hB3 : w3.heap[w2.heap.size]? = _ := blkUnder (w := wr.drew) HB.out hb3
      have f0 := freeB hB3 (j := 0)
      have f1 := freeB hB3 (j := 1)
      have m0 := cellB hB3 (j := 0) rfl
      have m1 := cellB hB3 (j := 1) rfl
      have HT3 := Lib.hid hT3
      have HMID : Hid (MidC w w2.heap.size k #[.int .i64 y0, .int .i64 i0, .int .i64 n0, .string s0, .int .i64 y1, .int .i64 i1, .int .i64 n1, .string s1, .int .i64 y2, .int .i64 i2, .int .i64 n2, .string s2] ((w3.setCell ⟨w2.heap.size, 0, none⟩ (.slice ta t'.length tc)).setCell ⟨w2.heap.size, 1, none⟩ (.slice ta2 p'.length tc2))) := mid_fin HQ.out HB.out hT3 (((Below.refl _ _).drew).trans hb3) HBW.out hLTB.out
      clear q0 q1 c0 c1 c3 c4 hB3 hb3 hT3
      go_wp2_with fail
      generalize ((w3.setCell ⟨w2.heap.size, 0, none⟩ (.slice ta t'.length tc)).setCell ⟨w2.heap.size, 1, none⟩ (.slice ta2 p'.length tc2)) = V at HMID ⊢
      obtain ⟨hQV, ⟨va, vc, vt, vT, va2, vc2, vp, hBV, hTV⟩, hWV⟩ := HMID.out
      have HQV := Lib.hid hQV
      have HBV := Lib.hid hBV
      have HTV := Lib.hid hTV
      have HWV := Lib.hid hWV
      have q0 := cellB hBV (j := 0) rfl
      have q1 := cellB hBV (j := 1) rfl
      have HCK := Lib.hid (fun (X : World) (hb : Below V.heap.size V X) => Check_any vt.length vp.length va vc vt vT va2 vc2 vp X rfl rfl (hTV.tab.below hb) (notes_below HN.out (hWV.trans (hb.mono hWV.size))) (tens_below HF.out (hWV.trans (hb.mono hWV.size))) (by have := hTV.atoms; omega) (by have := hTV.prefs; omega))
      have HRK := Lib.hid (fun (X : World) (hb : Below V.heap.size V X) => rcheck_any va vc vt vT va2 vc2 vp X (hTV.tab.below hb) (by have := hTV.atoms; omega) (by have := hTV.prefs; omega))
      obtain ⟨z, hz⟩ : ∃ z, checkS vt vT vp = z := ⟨_, rfl⟩
      have HZ := Lib.hid hz
      clear hQV hBV hTV hWV hz f0 f1 m0 m1 HMID
      go_region_held3 (fun w' => w'.cell? ⟨w2.heap.size, 0, none⟩ = some (.slice va vt.length vc) ∧ w'.cell? ⟨w2.heap.size, 1, none⟩ = some (.slice va2 vp.length vc2)) (first | go_keep | ((repeat' apply And.intro) <;> assumption))
        (first
          | (go_at_call 14; refine (HCK.out _ (by first | exact Below.refl _ _ | exact (Below.refl _ _).drew | exact hbB)).mono ?_; rintro e wA ⟨rfl, hbA'⟩; rw [HZ.out]; have hbA : Below V.heap.size V wA := (by first | exact hbA' | exact ((Below.refl _ _).drew).trans hbA' | exact hbB.trans (hbA'.mono hbB.size)); have m0 := cell_under q0 hbA; have m1 := cell_under q1 hbA)
          | (go_at_call 15; refine (HRK.out _ (by first | exact Below.refl _ _ | exact (Below.refl _ _).drew | exact hbA)).mono ?_; rintro e wB ⟨rfl, hbB'⟩; rw [HZ.out]; have hbB : Below V.heap.size V wB := (by first | exact hbB' | exact ((Below.refl _ _).drew).trans hbB' | exact hbA.trans (hbB'.mono hbA.size)); have n0 := cell_under q0 hbB; have n1 := cell_under q1 hbB))
      all_goals
        go_wp2_with fail
        go_roundw
        case rel =>
          first
            | exact ⟨k + 1, by omega, by go_num, blkUnder HQV.out hbB, ⟨va, vc, vt, vT, va2, vc2, vp, blkUnder HBV.out hbB, (HTV.out.below hbB).mono (by omega) (Nat.le_refl _) (by omega)⟩, HWV.out.trans (hbB.mono HWV.out.size)⟩
            | exact ⟨k + 1, by omega, by go_num, blkUnder HQV.out hbA, ⟨va, vc, vt, vT, va2, vc2, vp, blkUnder HBV.out hbA, (HTV.out.below hbA).mono (by omega) (Nat.le_refl _) (by omega)⟩, HWV.out.trans (hbA.mono HWV.out.size)⟩
        case measure => simp [intOf]; omega
    · obtain rfl : k = 3 := by omega
      clear hC
      go_wp2_with fail
      refine (Check_any 0 0 none 0 [] (fun _ => []) none 0 [] _ rfl rfl (tab_empty _) (notes_below HN.out HBW.out) (tens_below HF.out HBW.out) (by omega) (by omega)).mono ?_
      rintro e w5 ⟨rfl, hb5⟩
      rw [check_empty]
      go_wp2_with fail
      go_ret
      exact ⟨rfl, HBW.out.trans (hb5.mono HBW.out.size)⟩
end Go.Proofs.YtiinppicdhidhaaDoor
