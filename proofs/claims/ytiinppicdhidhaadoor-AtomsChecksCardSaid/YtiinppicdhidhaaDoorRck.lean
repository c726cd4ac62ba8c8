/-
  The reference's Check.
-/
import Derived.Test.YtiinppicdhidhaaDoorRq
import Derived.Test.YtiinppicdhidhaaDoorRu
import Derived.Test.YtiinppicdhidhaaDoorCx
import Derived.Laws.OwnMore
set_option linter.unusedVariables false
set_option linter.unusedSimpArgs false
namespace Go.Proofs.YtiinppicdhidhaaDoor
open Go.RowKit
open Go.Proofs

theorem info_C : (Tryd.prog.info? 30).map (fun i => (i.zero, i.size, i.bytes)) = some (some (.agg #[.string ⟨#[]⟩, .string ⟨#[]⟩, .string ⟨#[]⟩, .string ⟨#[]⟩, .string ⟨#[]⟩]), 5, 80) := by kernel_rfl
theorem size_C : (Tryd.prog.info? 30).map (·.size) = some 5 := by kernel_rfl
theorem row_cells (w : World) (c : Nat → ByteArray) : ∀ j u, (rowC c)[j]? = some u → (w.alloc (.cells (rowC c).toArray 30)).cell? ((⟨w.heap.size, 0, none⟩ : Addr).add j) = some u := fun j u hu => by
  rw [addPlain]
  exact cellNew w _ _ j u (by simpa using hu)
theorem rowC_one (c : Nat → ByteArray) : ∀ u ∈ rowC c, u.oneCell' = true := by
  intro u hu
  simp [rowC] at hu
  rcases hu with rfl | rfl | rfl | rfl | rfl <;> rfl
/-- The rows ahead, as the slice that holds them. -/
def Ahead (w : World) (B : Nat) (v : Value) (cs : Nat → Nat → ByteArray) (k : Nat) : Prop := w.ownsRow B 30 5 v k (rowsC cs k)
theorem Ahead.open {w : World} {B : Nat} {v : Value} {cs : Nat → Nat → ByteArray} {k : Nat} (h : Ahead w B v cs k) : ∃ a c, v = .slice a k c ∧ (k = 0 ∨ ∃ b off, a = some ⟨b, off, none⟩ ∧ w.rangeAt b off (rowsC cs k)) := by
  by_cases hk : k = 0
  · subst hk
    obtain ⟨a, c, rfl⟩ := slice_of h
    exact ⟨a, c, rfl, .inl rfl⟩
  · obtain ⟨g, cap, rfl⟩ := form_of h (by omega)
    refine ⟨some ⟨g, 0, none⟩, cap, rfl, .inr ⟨g, 0, rfl, ?_⟩⟩
    exact rangeOf h 0 (k * 5) _ (by rw [List.drop_zero, List.take_of_length_le]; rw [rowsC_length]; exact Nat.le_refl _)
theorem csA_range {w : World} {b off : Nat} {t : List AtomD} (h : w.rangeAt b off (atomsL t)) (k : Nat) (hk : k < t.length) : w.rangeAt b (off + k * 12) [.string (csA t k 0), .string (csA t k 1), .string (csA t k 2), .string (csA t k 3), .string (csA t k 4)] := by
  have hr := atomD_range h k hk
  have e : t[k]?.getD default = t[k] := by rw [List.getElem?_eq_getElem hk]; rfl
  intro j v hj
  refine hr j v ?_
  simp only [csA, e] at hj
  rcases j with _ | _ | _ | _ | _ | j
  · exact hj
  · exact hj
  · exact hj
  · exact hj
  · exact hj
  · simp at hj
theorem csP_range {w : World} {b off : Nat} {p : List PrefD} (h : w.rangeAt b off (prefsL p)) (k : Nat) (hk : k < p.length) : w.rangeAt b (off + k * 6) [.string (csP p k 0), .string (csP p k 1), .string (csP p k 2), .string (csP p k 3), .string (csP p k 4)] := by
  have hr := pref_range h k hk
  have e : p[k]?.getD default = p[k] := by rw [List.getElem?_eq_getElem hk]; rfl
  intro j v hj
  refine hr j v ?_
  simp only [csP, e] at hj
  rcases j with _ | _ | _ | _ | _ | j
  · exact hj
  · exact hj
  · exact hj
  · exact hj
  · exact hj
  · simp at hj
/-- The first k atoms are right. -/
def UpA (t : List AtomD) (T : Nat → List (Int × Int)) (k : Nat) : Prop := ∀ i, i < k → okA t T i = true
def UpP (p : List PrefD) (k : Nat) : Prop := ∀ i, i < k → okP p i = true
theorem rcheck_atom {t : List AtomD} {T : Nat → List (Int × Int)} {p : List PrefD} {k : Nat} (h1 : ¬ 100 < t.length) (h2 : ¬ 30 < p.length) (ha : UpA t T k) (hk : k < t.length) (hb : okA t T k = false) : checkS t T p = k := by
  have : (List.range t.length).find? (fun i => !okA t T i) = some k := by
    rw [List.find?_eq_some_iff_getElem]
    refine ⟨by simp [hb], k, by simpa using hk, by simp, fun j hj => by simp [ha j hj]⟩
  rw [checkS, if_neg (by omega), this]
set_option maxRecDepth 100000 in
set_option maxHeartbeats 8000000 in
theorem rcheck_any (a : Option Addr) (c : Nat) (t : List AtomD) (T : Nat → List (Int × Int)) (a2 : Option Addr) (c2 : Nat) (p : List PrefD) (w : World) (hT : TabIn w a t T a2 p) (hl : t.length ≤ 10000) (hp : p.length ≤ 10000) :
    Calls Tryd.prog 15 #[.agg #[.slice a t.length c, .slice a2 p.length c2]] w fun e w' => e = .returned (.int .i64 (checkS t T p)) ∧ Below w.heap.size w w' := by
  obtain ⟨i0, hi, hz0, hz1, hz2⟩ := info_parts info_C
  have HT := Lib.hid hT
  clear hT
  by_cases h1 : 100 < t.length
  · have d1 : decide (100 < (t.length : Int)) = true := by simp; omega
    go_enter Tryd.func15, Tryd.ntmps15
    go_wp2_with fail
    go_ret
    exact ⟨by rw [checkS, if_pos (.inl h1)]; rfl, (Below.refl _ _).alloc (Nat.le_refl _) _⟩
  have d1 : decide (100 < (t.length : Int)) = false := by simp; omega
  by_cases h2 : 30 < p.length
  · have d2 : decide (30 < (p.length : Int)) = true := by simp; omega
    go_enter Tryd.func15, Tryd.ntmps15
    go_wp2_with fail
    go_ret
    exact ⟨by rw [checkS, if_pos (.inr h2)]; rfl, (Below.refl _ _).alloc (Nat.le_refl _) _⟩
  have d2 : decide (30 < (p.length : Int)) = false := by simp; omega
  go_enter Tryd.func15, Tryd.ntmps15
  go_wp2_with fail
  go_loopw [3, 4, 5, 6] (fun v i _ _ wr => ∃ k : Nat, k ≤ t.length ∧ i = .int .i64 (k : Int) ∧ Ahead wr (w.heap.size + 1) v (csA t) k ∧ UpA t T k ∧ wr.heap[w.heap.size]? = some (.cells #[.slice a t.length c, .slice a2 p.length c2] 27 (0, 0)) ∧ Below w.heap.size w wr) (fun _ i _ _ _ => t.length - (intOf i).toNat)
  case atStart => exact ⟨0, by omega, rfl, World.ownsRow_nil _ _ _ _, fun i h => by omega, heap_alloc_new w _, (Below.refl _ _).alloc (Nat.le_refl _) _⟩
  case round =>
    obtain ⟨k, hk, rfl, hA, hU, hB, hbw⟩ := hrel
    obtain ⟨ax, cx, rfl, hAX⟩ := hA.open
    have HA := Lib.hid hA
    have HAX := Lib.hid hAX
    have HU := Lib.hid hU
    have HB := Lib.hid hB
    have HBW := Lib.hid hbw
    have q0 := cellB hB (j := 0) rfl
    have q1 := cellB hB (j := 1) rfl
    have ql : w.heap.size < wr.heap.size := (Array.getElem?_eq_some_iff.1 hB).1
    clear hA hAX hU hB hbw
    by_cases hlt : k < t.length
    · have hltd : decide ((k : Int) < (t.length : Int)) = true := by simp; omega
      have hk3 : (k : Int) < 10000 := by omega
      obtain ⟨b, off, rfl, hR, hbl⟩ : ∃ b off, a = some ⟨b, off, none⟩ ∧ w.rangeAt b off (atomsL t) ∧ b < w.heap.size := by
        rcases HT.out.atoms with rfl | h
        · simp at hlt
        · exact h
      have HR := Lib.hid hR
      have HC : Hid (wr.rangeAt b (off + k * 12) [.string (csA t k 0), .string (csA t k 1), .string (csA t k 2), .string (csA t k 3), .string (csA t k 4)]) := range_below (csA_range hR k hlt) HBW.out hbl
      have HF := Lib.hid (rcodes_any (csA t) k ax cx wr (HT.out.texts k) (by omega) HAX.out)
      unfold codesV at HF
      have HTT := Lib.hid (HT.out.terms k hlt)
      have HNN := Lib.hid (HT.out.nums k hlt)
      obtain ⟨o1, ho1⟩ : ∃ o, codesOk (csA t) k = o := ⟨_, rfl⟩
      obtain ⟨o2, ho2⟩ : ∃ o, worthS t (T k) k = o := ⟨_, rfl⟩
      have HO1 := Lib.hid ho1
      have HO2 := Lib.hid ho2
      have HOK : Hid (okA t T k = (o1 && o2)) := by show _ = _; rw [okA_eq, ho1, ho2]
      have HLT := Lib.hid hlt
      clear hR ho1 ho2
      go_wp2_with (first | (refine wpList_load_mid rfl 30 _ rfl b _ rfl _ _ HC.out Tryd.underlying30 rfl size_C ?_) | fail)
      refine HF.out.mono ?_
      rintro e w1 ⟨rfl, hb1⟩
      rw [HO1.out]
      have HB1 := Lib.hid (blkUnder HB.out hb1)
      have HA1 := Lib.hid (ownBelow HA.out hb1)
      have HBW1 := Lib.hid (HBW.out.trans (hb1.mono HBW.out.size))
      have q0' := cellB HB1.out (j := 0) rfl
      have q1' := cellB HB1.out (j := 1) rfl
      clear hb1 HF
      go_wp2_with fail
      refine (rworth_any t (T k) k b off c a2 p.length c2 w1 hlt hl (range_below HR.out HBW1.out hbl) HTT.out.1 (terms_below HTT.out.2.1 HBW1.out) HTT.out.2.2 HNN.out.1 HNN.out.2).mono ?_
      rintro e w2 ⟨rfl, hb2⟩
      rw [HO2.out]
      have HB2 := Lib.hid (blkUnder HB1.out hb2)
      have HA2 := Lib.hid (ownBelow HA1.out hb2)
      have HBW2 := Lib.hid (HBW1.out.trans (hb2.mono HBW1.out.size))
      have q0'' := cellB HB2.out (j := 0) rfl
      have q1'' := cellB HB2.out (j := 1) rfl
      have ql2 : w.heap.size < w2.heap.size := (Array.getElem?_eq_some_iff.1 HB2.out).1
      have HC2 : Hid (w2.rangeAt b (off + k * 12) [.string (csA t k 0), .string (csA t k 1), .string (csA t k 2), .string (csA t k 3), .string (csA t k 4)]) := range_below (csA_range HR.out k hlt) HBW2.out hbl
      clear hb2 HB1 HA1 HBW1 q0 q1 q0' q1'
      cases o1
      · have HBAD : Hid (okA t T k = false) := by show _ = _; rw [HOK.out]; rfl
        go_wp2_with fail
        go_ret
        exact ⟨by rw [rcheck_atom h1 h2 HU.out HLT.out HBAD.out]; rfl, HBW2.out⟩
      · cases o2
        · have HBAD : Hid (okA t T k = false) := by show _ = _; rw [HOK.out]; rfl
          go_wp2_with fail
          go_ret
          exact ⟨by rw [rcheck_atom h1 h2 HU.out HLT.out HBAD.out]; rfl, HBW2.out⟩
        · go_wp2_with (first | (refine wpList_load_mid rfl 30 _ rfl b _ rfl _ _ HC2.out Tryd.underlying30 rfl size_C ?_) | (at_builtin; refine wpList_append_own _ rfl _ _ 63 rfl (w.heap.size + 1) 30 i0 _ 5 80 Tryd.underlying63 hi hz0 hz1 hz2 rfl (by decide) _ k (rowsC (csA t) k) rfl (HA2.out.alloc _) ⟨_, 0, none⟩ 1 1 (rowC (csA t k)) rfl rfl (row_cells _ _) (rowC_one _) ?_ ?_ ?_ ?_))
          · unfold maxLen; omega
          · omega
          · simp; omega
          · intro v' w4 hown hgrow hnil
            rw [← rowsC_succ] at hown
            have HA4 : Hid (Ahead w4 (w.heap.size + 1) v' (csA t) (k + 1)) := hown
            have HB4 : Hid (w4.heap[w.heap.size]? = some (.cells #[.slice (some ⟨b, off, none⟩) t.length c, .slice a2 p.length c2] 27 (0, 0))) := (hgrow.block _ (by simp; omega) (fun e => by have := (HA2.out.lt _ e.symm).1; omega)).trans (blkAlloc _ HB2.out)
            have HBW4 := Lib.hid ((HBW2.out.alloc HBW2.out.size _).grown hgrow (by simp; omega) (fun q hq => by have := (HA2.out.lt q hq).1; omega))
            clear hown hgrow hnil HC2 q0'' q1'' HB2
            go_wp2_with fail
            go_roundw
            case rel => exact ⟨k + 1, by omega, by go_num, HA4.out, (fun j hj => by
              by_cases e : j = k
              · rw [e, HOK.out]; rfl
              · exact HU.out j (by omega)), HB4.out, HBW4.out⟩
            case measure => simp [intOf]; omega
    · obtain rfl : k = t.length := by omega
      have hltd : decide ((t.length : Int) < (t.length : Int)) = false := by simp
      have HUA := Lib.hid HU.out
      clear HAX HA HU
      go_wp2_with fail
      go_loopw [3, 7, 8] (fun v i _ wx => ∃ k : Nat, k ≤ p.length ∧ i = .int .i64 (k : Int) ∧ Ahead wx (w.heap.size + 1) v (csP p) k ∧ UpP p k ∧ wx.heap[w.heap.size]? = some (.cells #[.slice a t.length c, .slice a2 p.length c2] 27 (0, 0)) ∧ Below w.heap.size w wx) (fun _ i _ _ => p.length - (intOf i).toNat)
      case atStart => exact ⟨0, by omega, rfl, World.ownsRow_nil _ _ _ _, fun i h => by omega, HB.out, HBW.out⟩
      case round =>
        rename World => wx
        clear HB HBW q0 q1 ql
        obtain ⟨k, hk, rfl, hA, hU, hB, hbw⟩ := hrel
        obtain ⟨ax, cx, rfl, hAX⟩ := hA.open
        have HA := Lib.hid hA
        have HAX := Lib.hid hAX
        have HU := Lib.hid hU
        have HB := Lib.hid hB
        have HBW := Lib.hid hbw
        have q0 := cellB hB (j := 0) rfl
        have q1 := cellB hB (j := 1) rfl
        clear hA hAX hU hB hbw
        by_cases hlt : k < p.length
        · have hltd : decide ((k : Int) < (p.length : Int)) = true := by simp; omega
          have hk3 : (k : Int) < 10000 := by omega
          obtain ⟨b, off, rfl, hR, hbl⟩ : ∃ b off, a2 = some ⟨b, off, none⟩ ∧ w.rangeAt b off (prefsL p) ∧ b < w.heap.size := by
            rcases HT.out.prefs with rfl | h
            · simp at hlt
            · exact h
          have HR := Lib.hid hR
          have HC : Hid (wx.rangeAt b (off + k * 6) [.string (csP p k 0), .string (csP p k 1), .string (csP p k 2), .string (csP p k 3), .string (csP p k 4)]) := range_below (csP_range hR k hlt) HBW.out hbl
          have HF := Lib.hid (rcodes_any (csP p) k ax cx wx (HT.out.ptexts k) (by omega) HAX.out)
          unfold codesV at HF
          obtain ⟨ten, hten⟩ : ∃ z, (p[k]?.getD default).ten = z := ⟨_, rfl⟩
          have HTEN : Hid (w.cell? ⟨b, off + k * 6 + 5, none⟩ = some (.int .i64 ten)) := by
            have h := pref_range hR k hlt 5 (.int .i64 p[k].ten) rfl
            rw [List.getElem?_eq_getElem hlt, Option.getD_some] at hten
            rw [hten] at h
            exact h
          obtain ⟨o1, ho1⟩ : ∃ o, codesOk (csP p) k = o := ⟨_, rfl⟩
          have HO1 := Lib.hid ho1
          have HOK : Hid (okP p k = (o1 && (decide (-30 ≤ ten) && decide (ten ≤ 30)))) := by show _ = _; rw [okP_eq, ho1, hten]
          have HLT := Lib.hid hlt
          clear hR ho1 hten
          go_wp2_with (first | (refine wpList_load_mid rfl 30 _ rfl b _ rfl _ _ HC.out Tryd.underlying30 rfl size_C ?_) | fail)
          refine HF.out.mono ?_
          rintro e w1 ⟨rfl, hb1⟩
          rw [HO1.out]
          have HB1 := Lib.hid (blkUnder HB.out hb1)
          have HA1 := Lib.hid (ownBelow HA.out hb1)
          have HBW1 := Lib.hid (HBW.out.trans (hb1.mono HBW.out.size))
          have q0' := cellB HB1.out (j := 0) rfl
          have q1' := cellB HB1.out (j := 1) rfl
          have ql1 : w.heap.size < w1.heap.size := (Array.getElem?_eq_some_iff.1 HB1.out).1
          have qt := cell_under HTEN.out HBW1.out
          have HC1 : Hid (w1.rangeAt b (off + k * 6) [.string (csP p k 0), .string (csP p k 1), .string (csP p k 2), .string (csP p k 3), .string (csP p k 4)]) := range_below (csP_range HR.out k hlt) HBW1.out hbl
          clear hb1 HF
          cases o1
          · have HBAD : Hid (okP p k = false) := by show _ = _; rw [HOK.out]; rfl
            go_wp2_with fail
            go_ret
            exact ⟨by rw [check_pref h1 h2 HUA.out HU.out HLT.out HBAD.out]; rfl, HBW1.out⟩
          · by_cases t1 : ten < -30
            · have HBAD : Hid (okP p k = false) := by show _ = _; rw [HOK.out, decide_eq_false (by omega : ¬ -30 ≤ ten)]; rfl
              have x1 : decide (ten < -30) = true := decide_eq_true t1
              go_wp2_with fail
              go_ret
              exact ⟨by rw [check_pref h1 h2 HUA.out HU.out HLT.out HBAD.out]; rfl, HBW1.out⟩
            · have x1 : decide (ten < -30) = false := decide_eq_false t1
              by_cases t2 : 30 < ten
              · have HBAD : Hid (okP p k = false) := by show _ = _; rw [HOK.out, decide_eq_false (by omega : ¬ ten ≤ 30)]; simp
                have x2 : decide (30 < ten) = true := decide_eq_true t2
                go_wp2_with fail
                go_ret
                exact ⟨by rw [check_pref h1 h2 HUA.out HU.out HLT.out HBAD.out]; rfl, HBW1.out⟩
              · have x2 : decide (30 < ten) = false := decide_eq_false t2
                have HGOOD : Hid (okP p k = true) := by show _ = _; rw [HOK.out, decide_eq_true (by omega : -30 ≤ ten), decide_eq_true (by omega : ten ≤ 30)]; rfl
                go_wp2_with (first | (refine wpList_load_mid rfl 30 _ rfl b _ rfl _ _ HC1.out Tryd.underlying30 rfl size_C ?_) | (at_builtin; refine wpList_append_own _ rfl _ _ 63 rfl (w.heap.size + 1) 30 i0 _ 5 80 Tryd.underlying63 hi hz0 hz1 hz2 rfl (by decide) _ k (rowsC (csP p) k) rfl (HA1.out.alloc _) ⟨_, 0, none⟩ 1 1 (rowC (csP p k)) rfl rfl (row_cells _ _) (rowC_one _) ?_ ?_ ?_ ?_))
                · unfold maxLen; omega
                · omega
                · simp; omega
                · intro v' w4 hown hgrow hnil
                  rw [← rowsC_succ] at hown
                  have HA4 : Hid (Ahead w4 (w.heap.size + 1) v' (csP p) (k + 1)) := hown
                  have HB4 : Hid (w4.heap[w.heap.size]? = some (.cells #[.slice a t.length c, .slice (some ⟨b, off, none⟩) p.length c2] 27 (0, 0))) := (hgrow.block _ (by simp; omega) (fun e => by have := (HA1.out.lt _ e.symm).1; omega)).trans (blkAlloc _ HB1.out)
                  have HBW4 := Lib.hid ((HBW1.out.alloc HBW1.out.size _).grown hgrow (by simp; omega) (fun q hq => by have := (HA1.out.lt q hq).1; omega))
                  clear hown hgrow hnil HC1 q0' q1' HB1
                  go_wp2_with fail
                  go_roundw
                  case rel => exact ⟨k + 1, by omega, by go_num, HA4.out, (fun j hj => by
                    by_cases e : j = k
                    · rw [e, HGOOD.out]
                    · exact HU.out j (by omega)), HB4.out, HBW4.out⟩
                  case measure => simp [intOf]; omega
        · obtain rfl : k = p.length := by omega
          have hltp : decide ((p.length : Int) < (p.length : Int)) = false := by simp
          go_wp2_with fail
          go_ret
          exact ⟨by rw [check_all h1 h2 HUA.out HU.out]; rfl, HBW.out⟩
end Go.Proofs.YtiinppicdhidhaaDoor
