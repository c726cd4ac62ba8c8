/-
  The reference's symbols: an atom's place, a prefix's beginning. The reference's symbols: does a text begin with another one; what a symbol is. The reference's symbols: what a symbol is. The reference's symbols: a symbol's text; is it told.
-/
import Derived.StillTailTactics
import Derived.Test.YtaakaajcpjiccaaDoorNa19
set_option linter.unusedVariables false
set_option linter.unusedSimpArgs false
namespace Go.Proofs.YtaakaajcpjiccaaDoor
open Go.RowKit
open Go.Proofs

/-- None of the first k atoms has the code. -/
def NoAt (m : Nat) (s : List UInt8) (k : Nat) : Prop := s.isEmpty = true ∨ ∀ j, j < k → (codeAt j m == s) = false
theorem noAt_end {m : Nat} {s : List UInt8} (h : NoAt m s 48) : atomF m s = none := by
  unfold atomF
  rcases h with h | h
  · rw [if_pos h]
  · split
    · rfl
    · rw [List.find?_eq_none]
      intro j hj
      rw [h j (by simpa using hj)]
      simp
theorem noAt_hit {m : Nat} {s : List UInt8} {k : Nat} (hk : k < 48) (h : NoAt m s k) (he : s.isEmpty = false) (hc : (codeAt k m == s) = true) : atomF m s = some k := by
  unfold atomF
  rw [he]
  simp only [Bool.false_eq_true, if_false]
  rw [List.find?_range_eq_some]
  rcases h with h | h
  · rw [he] at h; cases h
  · exact ⟨hc, by simpa using hk, fun j hj => by rw [h j hj]; rfl⟩
theorem code_cell {w : World} {g g2 : Nat} {ss : Nat → Value} (h : BookIn w g g2 ss) (k m : Nat) (hk : k < 48) (hm : m < 5) : w.cell? ⟨g, k * 12 + m, none⟩ = some (.string ⟨(codeAt k m).toArray⟩) := by
  have h1 := atomD_range h.atoms k (by rw [tabD_length]; exact hk) m (.string (codesA (rowD ss k) m)) (by rw [tabD_getE]; exact codesA_cell _ m hm)
  rw [Nat.zero_add, codesA_rowD ss k m hm] at h1
  exact h1
set_option maxRecDepth 100000 in
set_option maxHeartbeats 4000000 in
theorem ratom_any (g c1 g2 c2 m : Nat) (ss : Nat → Value) (s : ByteArray) (w : World) (hm : m < 5) (hB : BookIn w g g2 ss) :
    Calls Tryd.prog 93 #[.agg #[.slice (some ⟨g, 0, none⟩) 48 c1, .slice (some ⟨g2, 0, none⟩) 20 c2], .int .i64 ((m : Int) + 1), .string s] w fun e w' => e = .returned (.int .i64 (orI (atomF m s.toList))) ∧ Below w.heap.size w w' := by
  have hb0 := blkNew w #[.slice (some ⟨g, 0, none⟩) 48 c1, .slice (some ⟨g2, 0, none⟩) 20 c2] 89
  have w2 : Below w.heap.size w (w.alloc (.cells #[.slice (some ⟨g, 0, none⟩) 48 c1, .slice (some ⟨g2, 0, none⟩) 20 c2] 89)) := (Below.refl _ _).alloc (Nat.le_refl _) _
  have W2 := Lib.hid w2
  have HB := Lib.hid (hB.below w2)
  have b0 := cellB hb0 (j := 0) rfl
  have b1 := cellB hb0 (j := 1) rfl
  clear hB w2 hb0
  have v1 : IntKind.i64.wrap (m : Int) = (m : Int) := IntWalk.i64_in _ (by omega)
  have v2 : (m : Int) < 5 := by omega
  have v3 : 0 ≤ (m : Int) := by omega
  go_enter Tryd.func93, Tryd.ntmps93
  go_wp2_with fail
  generalize w.alloc (.cells #[.slice (some ⟨g, 0, none⟩) 48 c1, .slice (some ⟨g2, 0, none⟩) 20 c2] 89) = V at W2 HB b0 b1 ⊢
  go_loopw [7] (fun i wr => ∃ k : Nat, k ≤ 48 ∧ i = .int .i64 (k : Int) ∧ NoAt m s.toList k ∧ wr = V) (fun i _ => 48 - (intOf i).toNat)
  case atStart => exact ⟨0, by omega, rfl, .inr (fun j h => by omega), rfl⟩
  case round =>
    obtain ⟨k, hk, rfl, hn, rfl⟩ := hrel
    have HN := Lib.hid hn
    clear hn
    by_cases hlt : k < 48
    · have hk48 : (k : Int) < 48 := by omega
      have hcell := code_cell HB.out k m hlt hm
      obtain ⟨cd, hcd⟩ : ∃ c : ByteArray, (⟨(codeAt k m).toArray⟩ : ByteArray) = c := ⟨_, rfl⟩
      have HC : Hid (cd.toList = codeAt k m) := by show _ = _; rw [← hcd, ByteArray.toList_eq]
      rw [hcd] at hcell
      clear hcd
      cases he : s.toList.isEmpty with
      | true =>
        go_wp2_with fail
        go_roundw
        case rel => exact ⟨k + 1, by omega, by simp, .inl he, by first | rfl | trivial⟩
        case measure => simp [intOf]; omega
      | false =>
        cases hc : (cd.toList == s.toList) with
        | true =>
          have HF : Hid (atomF m s.toList = some k) := noAt_hit hlt HN.out he (by rw [← HC.out]; exact hc)
          go_wp2_with fail
          go_ret
          exact ⟨by rw [HF.out]; rfl, W2.out⟩
        | false =>
          have HN2 : Hid (NoAt m s.toList (k + 1)) := by
            rcases HN.out with h | h
            · exact .inl h
            · refine .inr fun j hj => ?_
              by_cases hjk : j = k
              · subst hjk; rw [← HC.out]; exact hc
              · exact h j (by omega)
          go_wp2_with fail
          go_roundw
          case rel => exact ⟨k + 1, by omega, by simp, HN2.out, by first | rfl | trivial⟩
          case measure => simp [intOf]; omega
    · obtain rfl : k = 48 := by omega
      have HF := Lib.hid (noAt_end HN.out)
      go_wp2_with fail
      go_ret
      exact ⟨by rw [HF.out]; rfl, W2.out⟩
end Go.Proofs.YtaakaajcpjiccaaDoor
namespace Go.Proofs.YtaakaajcpjiccaaDoor
open Go.RowKit
open Go.Proofs

def begF (s p : List UInt8) : Bool := !p.isEmpty && decide (p.length < s.length) && (s.take p.length == p)
theorem extract_take (s : ByteArray) (n : Nat) : (s.extract 0 n).toList = s.toList.take n := by
  rw [ByteArray.toList_eq, ByteArray.toList_eq, ByteArray.data_extract]
  simp
theorem extract_drop (s : ByteArray) (n : Nat) : (s.extract n s.size).toList = s.toList.drop n := by
  rw [ByteArray.toList_eq, ByteArray.toList_eq, ByteArray.data_extract, Array.toList_extract, List.extract_eq_take_drop]
  refine List.take_of_length_le ?_
  rw [List.length_drop, Array.length_toList]
  exact Nat.le_refl _
set_option maxRecDepth 100000 in
set_option maxHeartbeats 4000000 in
theorem begins_any (s p : ByteArray) (w : World) (hs : s.size ≤ maxLen) :
    Calls Tryd.prog 94 #[.string s, .string p] w fun e w' => e = .returned (.bool (begF s.toList p.toList)) ∧ w' = w := by
  cases hp : p.toList.isEmpty with
  | true =>
    have HB : Hid (begF s.toList p.toList = false) := by show _ = _; rw [begF, hp]; rfl
    go_enter Tryd.func94, Tryd.ntmps94
    go_wp2_with fail
    go_ret
    exact ⟨by rw [HB.out]; rfl, rfl⟩
  | false =>
    by_cases hl : p.size < s.size
    · have hl2 : (p.size : Int) < (s.size : Int) := by omega
      go_enter Tryd.func94, Tryd.ntmps94
      go_wp2_with fail
      go_ret
      refine ⟨?_, rfl⟩
      rw [begF, hp, toList_size, toList_size, decide_eq_true hl, ← extract_take]
      rfl
    · have hl2 : (s.size : Int) ≤ (p.size : Int) := by omega
      have HB : Hid (begF s.toList p.toList = false) := by
        show _ = _
        rw [begF, hp, toList_size, toList_size, decide_eq_false hl]
        rfl
      go_enter Tryd.func94, Tryd.ntmps94
      go_wp2_with fail
      go_ret
      exact ⟨by rw [HB.out]; rfl, rfl⟩
theorem begF_no {m : Nat} {s : List UInt8} {k : Nat} (h : begF s (preCodeAt k m) = false) : preF m s k = none := by
  unfold preF
  cases hp : (preCodeAt k m).isEmpty with
  | true => rfl
  | false =>
    simp only [Bool.false_eq_true, if_false]
    cases hq : (preCodeAt k m).isPrefixOf s with
    | false => rfl
    | true =>
      simp only [if_true]
      rw [List.isPrefixOf_iff_prefix] at hq
      obtain ⟨r, rfl⟩ := hq
      rw [List.drop_left]
      cases r with
      | nil => rfl
      | cons x r =>
        exfalso
        simp [begF, hp] at h
theorem begF_yes {m : Nat} {s : List UInt8} {k : Nat} (h : begF s (preCodeAt k m) = true) : preF m s k = (atomF m (s.drop (preCodeAt k m).length)).filter fun a => (rowAt a).metric := by
  unfold begF at h
  simp only [Bool.and_eq_true, Bool.not_eq_true', decide_eq_true_eq, beq_iff_eq] at h
  obtain ⟨⟨h1, h2⟩, h3⟩ := h
  refine preF_eq h1 ?_
  rw [List.isPrefixOf_iff_prefix]
  exact ⟨s.drop (preCodeAt k m).length, by rw [← List.take_append_drop (preCodeAt k m).length s, h3]; simp⟩
theorem results_rowQ {fn : Func} {p : Tmp} {ty : TypeId} (h : fn.results = #[.cell p ty]) (tmps : Array Value) (w : World) (b : Nat) (cs : List Value) (d : TypeDesc)
    (hp : tmps.getD p undef = .pointer (some ⟨b, 0, none⟩)) (hc : w.rangeAt b 0 cs) (hu : Tryd.prog.underlying ty = some d) (hd : d.isRow = true) (hi : (Tryd.prog.info? ty).map (·.size) = some cs.length) :
    (results fn tmps).run Tryd.prog w = .ok (.agg cs.toArray) w := by
  have hp' : tmps[p]?.getD undef = .pointer (some ⟨b, 0, none⟩) := by simpa using hp
  simp [results, h, hp', asAddr, run_loadVar_mid w b 0 ty cs d hc hu hd hi]
theorem three_range {w : World} {b : Nat} {x0 x1 x2 : Value} {t : TypeId} {fr : Nat × Nat} (v0 v1 v2 : Value) (hk : w.heap[b]? = some (.cells #[x0, x1, x2] t fr)) : (((w.setCell ⟨b, 0, none⟩ v0).setCell ⟨b, 1, none⟩ v1).setCell ⟨b, 2, none⟩ v2).rangeAt b 0 [v0, v1, v2] :=
  setRowL_rangeQ b [v0, v1, v2] 0 w (fun i h1 h2 => by
    have h3 : i = 0 ∨ i = 1 ∨ i = 2 := by simp only [List.length_cons, List.length_nil] at h2; omega
    rcases h3 with rfl | rfl | rfl <;> simp [World.cell?, hk])
theorem three_below {w w1 : World} {B b : Nat} (v0 v1 v2 : Value) (h : Below B w w1) (hb : B ≤ b) : Below B w (((w1.setCell ⟨b, 0, none⟩ v0).setCell ⟨b, 1, none⟩ v1).setCell ⟨b, 2, none⟩ v2) :=
  ((h.setCell (p := ⟨b, 0, none⟩) hb v0).setCell (p := ⟨b, 1, none⟩) hb v1).setCell (p := ⟨b, 2, none⟩) hb v2
/-- What a symbol is, as the reference says it. -/
def symRV : Option (Int × Nat) → Value
  | some (p, a) => .agg #[.int .i64 p, .int .i64 (a : Int), .bool true]
  | none => .agg #[.int .i64 (-1), .int .i64 (-1), .bool false]
theorem pre_at {w : World} {g g2 : Nat} {ss : Nat → Value} (h : BookIn w g g2 ss) (k m : Nat) (hk : k < 20) (hm : m < 5) : w.cell? ⟨g2, k * 6 + m, none⟩ = some (.string ⟨(preCodeAt k m).toArray⟩) := by
  have h1 := pres_row h.pres k hk m _ (preCode_cell k m hm)
  rw [Nat.zero_add] at h1
  exact h1
end Go.Proofs.YtaakaajcpjiccaaDoor
namespace Go.Proofs.YtaakaajcpjiccaaDoor
open Go.RowKit
open Go.Proofs

set_option maxRecDepth 100000 in
set_option maxHeartbeats 4000000 in
theorem rfind_any (g c1 g2 c2 m : Nat) (ss : Nat → Value) (s : ByteArray) (w : World) (hm : m < 5) (hsz : s.size ≤ maxLen) (hB : BookIn w g g2 ss) :
    Calls Tryd.prog 81 #[.agg #[.slice (some ⟨g, 0, none⟩) 48 c1, .slice (some ⟨g2, 0, none⟩) 20 c2], .int .i64 ((m : Int) + 1), .string s] w fun e w' => e = .returned (symRV (findF m s.toList)) ∧ Below w.heap.size w w' := by
  have w2 : Below w.heap.size w ((w.alloc (.cells #[.slice (some ⟨g, 0, none⟩) 48 c1, .slice (some ⟨g2, 0, none⟩) 20 c2] 89)).alloc (.cells #[.int .i64 0, .int .i64 0, .bool false] 142)) := ((Below.refl _ _).alloc (Nat.le_refl _) _).alloc (by simp) _
  have W2 := Lib.hid w2
  have HB2 := Lib.hid (hB.below w2)
  have HK := Lib.hid (two_new w #[.slice (some ⟨g, 0, none⟩) 48 c1, .slice (some ⟨g2, 0, none⟩) 20 c2] #[.int .i64 0, .int .i64 0, .bool false] 89 142)
  clear hB w2
  have v1 : IntKind.i64.wrap (m : Int) = (m : Int) := IntWalk.i64_in _ (by omega)
  have v2 : (m : Int) < 5 := by omega
  have v3 : 0 ≤ (m : Int) := by omega
  go_enter Tryd.func81, Tryd.ntmps81
  have t0 := cellB HK.out.1 (j := 0) rfl
  have t1 := cellB HK.out.1 (j := 1) rfl
  go_wp2_with fail
  generalize (w.alloc (.cells #[.slice (some ⟨g, 0, none⟩) 48 c1, .slice (some ⟨g2, 0, none⟩) 20 c2] 89)).alloc (.cells #[.int .i64 0, .int .i64 0, .bool false] 142) = V at W2 HB2 HK t0 t1 ⊢
  refine (ratom_any g c1 g2 c2 m ss s _ hm HB2.out).mono ?_
  rintro e w1 ⟨rfl, hb1⟩
  have HB1 := Lib.hid (HB2.out.below hb1)
  have W1 := Lib.hid (W2.out.trans (hb1.mono W2.out.size))
  have HK1 : Hid (w1.heap[w.heap.size]? = some _ ∧ w1.heap[w.heap.size + 1]? = some _) := ⟨blkUnder HK.out.1 hb1, blkUnder HK.out.2 hb1⟩
  clear hb1 t0 t1
  cases ha : atomF m s.toList with
  | some a =>
    have HF := Lib.hid (findF_atom ha)
    have hane : (0 ≤ (a : Int)) := by omega
    have f0 := freeB HK1.out.2 (j := 0)
    have f1 := freeB HK1.out.2 (j := 1)
    have f2 := freeB HK1.out.2 (j := 2)
    have c0 := cellB HK1.out.2 (j := 0) rfl
    have c1' := cellB HK1.out.2 (j := 1) rfl
    have c2' := cellB HK1.out.2 (j := 2) rfl
    simp only [orI]
    clear ha
    go_wp2_with fail
    refine bodyPost_ret (v := .agg #[.int .i64 (-1), .int .i64 (a : Int), .bool true]) (results_rowQ Tryd.results81 _ _ (w.heap.size + 1) [_, _, _] _ rfl (three_range _ _ _ HK1.out.2) Tryd.underlying142 rfl (by kernel_rfl)) rfl ⟨by rw [HF.out]; rfl, three_below _ _ _ W1.out (by omega)⟩
  | none =>
    have HA := Lib.hid ha
    have t0 := cellB HK1.out.1 (j := 0) rfl
    have t1 := cellB HK1.out.1 (j := 1) rfl
    simp only [orI]
    clear ha
    go_wp2_with fail
    go_loopw [7, 8, 9, 10] (fun _ i _ _ wr => ∃ k : Nat, k ≤ 20 ∧ i = .int .i64 (k : Int) ∧ NoPre m s.toList k ∧ Below w1.heap.size w1 wr) (fun _ i _ _ _ => 20 - (intOf i).toNat)
    case atStart => exact ⟨0, by omega, rfl, fun j h => by omega, Below.refl _ _⟩
    case round =>
      obtain ⟨k, hk, rfl, hn, hbw⟩ := hrel
      have HN := Lib.hid hn
      have HBW := Lib.hid hbw
      have HBK := Lib.hid (HB1.out.below hbw)
      have k0 := cell_under t0 hbw
      have k1 := cell_under t1 hbw
      have HKW := Lib.hid (blkUnder HK1.out.2 hbw)
      clear hn hbw
      by_cases hlt : k < 20
      · have hk20 : (k : Int) < 20 := by omega
        have hcell := pre_at HBK.out k m hlt hm
        obtain ⟨pd, hpd⟩ : ∃ c : ByteArray, (⟨(preCodeAt k m).toArray⟩ : ByteArray) = c := ⟨_, rfl⟩
        have HPD : Hid (pd.toList = preCodeAt k m) := by show _ = _; rw [← hpd, ByteArray.toList_eq]
        rw [hpd] at hcell
        clear hpd
        cases hbg : begF s.toList pd.toList with
        | false =>
          have HP : Hid (preF m s.toList k = none) := begF_no (by rw [← HPD.out]; exact hbg)
          go_wp2_with (go_at_call 94; refine (begins_any s pd _ hsz).mono ?_; rintro e w' ⟨rfl, hw⟩; rw [hw, hbg])
          go_roundw
          case rel =>
            refine ⟨k + 1, by omega, by simp, fun j h => ?_, HBW.out⟩
            by_cases hj : j = k
            · subst hj; rw [HP.out]; rfl
            · exact HN.out j (by omega)
          case measure => simp [intOf]; omega
        | true =>
          have HP : Hid (preF m s.toList k = (atomF m (s.toList.drop pd.toList.length)).filter fun a => (rowAt a).metric) := by
            show _ = _
            rw [begF_yes (by rw [← HPD.out]; exact hbg), HPD.out]
          have hpl : pd.size < s.size := by
            unfold begF at hbg
            simp only [Bool.and_eq_true, decide_eq_true_eq] at hbg
            rw [← toList_size, ← toList_size]
            exact hbg.1.2
          have hpl2 : (pd.size : Int) ≤ (s.size : Int) := by omega
          go_wp2_with (go_at_call 94; refine (begins_any s pd _ hsz).mono ?_; rintro e w' ⟨rfl, hw⟩; rw [hw, hbg])
          go_still_tail 6, (by kernel_rfl)
          have hd : Below wr.heap.size wr wr.drew := (Below.refl _ _).drew
          have HBD := Lib.hid (HBK.out.below hd)
          have HWD := Lib.hid (HBW.out.trans (hd.mono HBW.out.size))
          have HKD := Lib.hid (blkUnder HKW.out hd)
          have d0 := cell_under k0 hd
          have d1 := cell_under k1 hd
          clear k0 k1 hcell hd HKW
          change wpList _ _ _ _ _ wr.drew
          generalize wr.drew = X at HBD HWD HKD d0 d1 ⊢
          go_wp2_with fail
          refine (ratom_any g c1 g2 c2 m ss (s.extract pd.size s.size) X hm HBD.out).mono ?_
          rw [extract_drop]
          rintro e Y ⟨rfl, hby⟩
          have HBY := Lib.hid (HWD.out.trans (hby.mono HWD.out.size))
          have HBB := Lib.hid (HBD.out.below hby)
          have HKY := Lib.hid (blkUnder HKD.out hby)
          have y0 := cell_under d0 hby
          clear hby d0 d1
          rw [toList_size] at HP
          cases haa : atomF m (s.toList.drop pd.size) with
          | none =>
            have HP2 : Hid (preF m s.toList k = none) := by show _ = _; rw [HP.out, haa]; rfl
            simp only [orI]
            clear haa
            go_wp2_with fail
            go_roundw
            case rel =>
              refine ⟨k + 1, by omega, by simp, fun j h => ?_, HBY.out⟩
              by_cases hj : j = k
              · subst hj; rw [HP2.out]; rfl
              · exact HN.out j (by omega)
            case measure => simp [intOf]; omega
          | some a =>
            have ha48 := (atomF_some haa).1
            have hmet := atomD_range HBB.out.atoms a (by rw [tabD_length]; exact ha48) 5 (.bool (rowAt a).metric) (by rw [tabD_getE]; rfl)
            rw [Nat.zero_add] at hmet
            obtain ⟨mt, hmt⟩ : ∃ b, (rowAt a).metric = b := ⟨_, rfl⟩
            rw [hmt] at hmet
            have HP3 : Hid (preF m s.toList k = if mt then some a else none) := by
              show _ = _
              rw [HP.out, haa, Option.filter_some, hmt]
            have a0 : 0 ≤ (a : Int) := by omega
            have a48 : (a : Int) < 48 := by omega
            simp only [orI]
            clear haa hmt
            cases mt with
            | false =>
              have HP2 : Hid (preF m s.toList k = none) := HP3.out
              go_wp2_with fail
              go_roundw
              case rel =>
                refine ⟨k + 1, by omega, by simp, fun j h => ?_, HBY.out⟩
                by_cases hj : j = k
                · subst hj; rw [HP2.out]; rfl
                · exact HN.out j (by omega)
              case measure => simp [intOf]; omega
            | true =>
              have HF := Lib.hid (findF_pre HA.out hlt HN.out HP3.out)
              have f0 := freeB HKY.out (j := 0)
              have f1 := freeB HKY.out (j := 1)
              have f2 := freeB HKY.out (j := 2)
              have c0 := cellB HKY.out (j := 0) rfl
              have c1' := cellB HKY.out (j := 1) rfl
              have c2' := cellB HKY.out (j := 2) rfl
              go_wp2_with fail
              refine bodyPost_ret (v := .agg #[.int .i64 (k : Int), .int .i64 (a : Int), .bool true]) (results_rowQ Tryd.results81 _ _ (w.heap.size + 1) [_, _, _] _ rfl (three_range _ _ _ HKY.out) Tryd.underlying142 rfl (by kernel_rfl)) rfl ⟨by rw [HF.out]; rfl, three_below _ _ _ (W1.out.trans (HBY.out.mono W1.out.size)) (by omega)⟩
      · obtain rfl : k = 20 := by omega
        have HF := Lib.hid (findF_none HA.out HN.out)
        have f0 := freeB HKW.out (j := 0)
        have f1 := freeB HKW.out (j := 1)
        have f2 := freeB HKW.out (j := 2)
        have c0 := cellB HKW.out (j := 0) rfl
        have c1' := cellB HKW.out (j := 1) rfl
        have c2' := cellB HKW.out (j := 2) rfl
        go_wp2_with fail
        refine bodyPost_ret (v := .agg #[.int .i64 (-1), .int .i64 (-1), .bool false]) (results_rowQ Tryd.results81 _ _ (w.heap.size + 1) [_, _, _] _ rfl (three_range _ _ _ HKW.out) Tryd.underlying142 rfl (by kernel_rfl)) rfl ⟨by rw [HF.out]; rfl, three_below _ _ _ (W1.out.trans (HBW.out.mono W1.out.size)) (by omega)⟩
end Go.Proofs.YtaakaajcpjiccaaDoor
namespace Go.Proofs.YtaakaajcpjiccaaDoor
open Go.RowKit
open Go.Proofs

abbrev tabV (g c1 g2 c2 : Nat) : Value := .agg #[.slice (some ⟨g, 0, none⟩) 48 c1, .slice (some ⟨g2, 0, none⟩) 20 c2]
theorem metric_cell {w : World} {g g2 : Nat} {ss : Nat → Value} (h : BookIn w g g2 ss) (a : Nat) (ha : a < 48) : w.cell? ⟨g, a * 12 + 5, none⟩ = some (.bool (rowAt a).metric) := by
  have h1 := atomD_range h.atoms a (by rw [tabD_length]; exact ha) 5 (.bool (rowAt a).metric) (by rw [tabD_getE]; rfl)
  rw [Nat.zero_add] at h1
  exact h1
set_option maxRecDepth 100000 in
set_option maxHeartbeats 4000000 in
theorem rtext_any (g c1 g2 c2 m q a : Nat) (ss : Nat → Value) (w : World) (hm : m < 5) (hq : q < 21) (ha : a < 48) (hB : BookIn w g g2 ss) :
    Calls Tryd.prog 64 #[tabV g c1 g2 c2, .int .i64 ((m : Int) + 1), .int .i64 ((q : Int) - 1), .int .i64 (a : Int)] w fun e w' => e = .returned (.string ⟨(textF m q a).toArray⟩) ∧ Below w.heap.size w w' := by
  have hb0 := blkNew w #[.slice (some ⟨g, 0, none⟩) 48 c1, .slice (some ⟨g2, 0, none⟩) 20 c2] 89
  have w2 : Below w.heap.size w (w.alloc (.cells #[.slice (some ⟨g, 0, none⟩) 48 c1, .slice (some ⟨g2, 0, none⟩) 20 c2] 89)) := (Below.refl _ _).alloc (Nat.le_refl _) _
  have W2 := Lib.hid w2
  have hB2 := hB.below w2
  have b0 := cellB hb0 (j := 0) rfl
  have b1 := cellB hb0 (j := 1) rfl
  have k0 := code_cell hB2 a m ha hm
  have km := metric_cell hB2 a ha
  have hpr := fun p (hp : p < 20) => pre_at hB2 p m hp hm
  have HPR := Lib.hid hpr
  obtain ⟨cd, hcd⟩ : ∃ c : ByteArray, (⟨(codeAt a m).toArray⟩ : ByteArray) = c := ⟨_, rfl⟩
  have HC : Hid (cd.toList = codeAt a m) := by show _ = _; rw [← hcd, ByteArray.toList_eq]
  rw [hcd] at k0
  obtain ⟨mt, hmt⟩ : ∃ b, (rowAt a).metric = b := ⟨_, rfl⟩
  have HM := Lib.hid hmt
  rw [hmt] at km
  clear hB w2 hb0 hB2 hpr hcd hmt
  have v1 : IntKind.i64.wrap (m : Int) = (m : Int) := IntWalk.i64_in _ (by omega)
  have v2 : (m : Int) < 5 := by omega
  have v3 : 0 ≤ (m : Int) := by omega
  have a48 : (a : Int) < 48 := by omega
  have a0 : 0 ≤ (a : Int) := by omega
  have q0 : -1 ≤ (q : Int) - 1 := by omega
  have q20 : (q : Int) - 1 < 20 := by omega
  obtain ⟨qi, hqi⟩ : ∃ z : Int, (q : Int) - 1 = z := ⟨_, rfl⟩
  rw [hqi] at q0 q20 ⊢
  have HQ := Lib.hid hqi
  clear hqi
  have hq1 : (qi == -1) = (q == 0) := by rw [← HQ.out, Bool.eq_iff_iff]; simp only [beq_iff_eq]; omega
  by_cases hq0 : q = 0
  · subst hq0
    have e : qi = -1 := by rw [← HQ.out]; rfl
    subst e
    have HT : Hid (textF m 0 a = cd.toList) := by show _ = _; rw [textF_0, HC.out]
    cases hce : cd.toList.isEmpty with
    | true =>
      go_enter Tryd.func64, Tryd.ntmps64
      go_wp2_with fail
      go_ret
      exact ⟨by rw [HT.out, backB]; rfl, W2.out⟩
    | false =>
      go_enter Tryd.func64, Tryd.ntmps64
      go_wp2_with fail
      go_ret
      exact ⟨by rw [HT.out, backB]; rfl, W2.out⟩
  · have hqf : (q == 0) = false := by simpa using hq0
    rw [hqf] at hq1
    cases hce : cd.toList.isEmpty with
    | true =>
      have HT : Hid (textF m q a = cd.toList) := by show _ = _; rw [textF_e (by rw [← HC.out]; exact hce), HC.out]
      go_enter Tryd.func64, Tryd.ntmps64
      go_wp2_with fail
      go_ret
      exact ⟨by rw [HT.out, backB]; rfl, W2.out⟩
    | false =>
      obtain ⟨p, rfl⟩ : ∃ p, q = p + 1 := ⟨q - 1, by omega⟩
      have e : qi = (p : Int) := by rw [← HQ.out]; omega
      subst e
      have hp20 : p < 20 := by omega
      have hpr := HPR.out p hp20
      obtain ⟨pd, hpd⟩ : ∃ c : ByteArray, (⟨(preCodeAt p m).toArray⟩ : ByteArray) = c := ⟨_, rfl⟩
      have HPD : Hid (pd.toList = preCodeAt p m) := by show _ = _; rw [← hpd, ByteArray.toList_eq]
      rw [hpd] at hpr
      have HCE : Hid ((codeAt a m).isEmpty = false) := by show _ = _; rw [← HC.out]; exact hce
      clear hpd
      cases hpe : pd.toList.isEmpty with
      | true =>
        have HT : Hid (textF m (p + 1) a = []) := textF_n HCE.out (.inl (by rw [← HPD.out]; exact hpe))
        go_enter Tryd.func64, Tryd.ntmps64
        go_wp2_with fail
        go_ret
        exact ⟨by rw [HT.out]; rfl, W2.out⟩
      | false =>
        have HPE : Hid ((preCodeAt p m).isEmpty = false) := by show _ = _; rw [← HPD.out]; exact hpe
        cases mt with
        | false =>
          have HT : Hid (textF m (p + 1) a = []) := textF_n HCE.out (.inr HM.out)
          go_enter Tryd.func64, Tryd.ntmps64
          go_wp2_with fail
          go_ret
          exact ⟨by rw [HT.out]; rfl, W2.out⟩
        | true =>
          have HT : Hid (textF m (p + 1) a = pd.toList ++ cd.toList) := by show _ = _; rw [textF_y HCE.out HPE.out HM.out, HPD.out, HC.out]
          have hsz : ¬9223372036854775807 < pd.size + cd.size := by
            have h1 := codeAt_short' a ha m hm
            have h2 := preCode_short' p hp20 m hm
            rw [← HC.out] at h1
            rw [← HPD.out] at h2
            rw [← toList_size, ← toList_size]
            omega
          go_enter Tryd.func64, Tryd.ntmps64
          go_wp2_with fail
          go_ret
          exact ⟨by rw [HT.out, cat_back]; rfl, W2.out⟩
set_option maxRecDepth 100000 in
set_option maxHeartbeats 4000000 in
theorem rtold_any (g c1 g2 c2 m q a : Nat) (ss : Nat → Value) (w : World) (hm : m < 5) (hq : q < 21) (ha : a < 48) (hB : BookIn w g g2 ss) :
    Calls Tryd.prog 63 #[tabV g c1 g2 c2, .int .i64 ((m : Int) + 1), .int .i64 ((q : Int) - 1), .int .i64 (a : Int)] w fun e w' => e = .returned (.bool (toldF m q a)) ∧ Below w.heap.size w w' := by
  have hb0 := blkNew w #[.slice (some ⟨g, 0, none⟩) 48 c1, .slice (some ⟨g2, 0, none⟩) 20 c2] 89
  have w2 : Below w.heap.size w (w.alloc (.cells #[.slice (some ⟨g, 0, none⟩) 48 c1, .slice (some ⟨g2, 0, none⟩) 20 c2] 89)) := (Below.refl _ _).alloc (Nat.le_refl _) _
  have W2 := Lib.hid w2
  have HB := Lib.hid (hB.below w2)
  have HK := Lib.hid hb0
  have b0 := cellB hb0 (j := 0) rfl
  have b1 := cellB hb0 (j := 1) rfl
  clear hB w2 hb0
  have HE := Lib.hid (toldF_eq m q a)
  have HSH := Lib.hid (textF_short m q a hm hq ha)
  obtain ⟨qi, hqi⟩ : ∃ z : Int, (q : Int) - 1 = z := ⟨_, rfl⟩
  rw [hqi] at HE
  have HT : Hid (∀ w, BookIn w g g2 ss → Calls Tryd.prog 64 #[tabV g c1 g2 c2, .int .i64 ((m : Int) + 1), .int .i64 qi, .int .i64 (a : Int)] w fun e w' => e = .returned (.string ⟨(textF m q a).toArray⟩) ∧ Below w.heap.size w w') := by
    intro w hB
    rw [← hqi]
    exact rtext_any g c1 g2 c2 m q a ss w hm hq ha hB
  rw [hqi]
  clear hqi
  obtain ⟨tx, htx⟩ : ∃ c : ByteArray, (⟨(textF m q a).toArray⟩ : ByteArray) = c := ⟨_, rfl⟩
  have htl : tx.toList = textF m q a := by rw [← htx, ByteArray.toList_eq]
  rw [htx] at HT
  rw [← htl] at HE HSH
  have hsz : tx.size ≤ maxLen := by have := HSH.out; rw [toList_size] at this; unfold maxLen; omega
  clear htx htl
  go_enter Tryd.func63, Tryd.ntmps63
  go_wp2_with fail
  generalize w.alloc (.cells #[.slice (some ⟨g, 0, none⟩) 48 c1, .slice (some ⟨g2, 0, none⟩) 20 c2] 89) = V at W2 HB HK b0 b1 ⊢
  refine (HT.out _ HB.out).mono ?_
  rintro e w1 ⟨rfl, hb1⟩
  have W1 := Lib.hid (W2.out.trans (hb1.mono W2.out.size))
  have HB1 := Lib.hid (HB.out.below hb1)
  have d0 := cell_under b0 hb1
  have d1 := cell_under b1 hb1
  clear hb1 b0 b1
  go_wp2_with fail
  refine (rfind_any g c1 g2 c2 m ss tx w1 hm hsz HB1.out).mono ?_
  rintro e w3 ⟨rfl, hb3⟩
  have W3 := Lib.hid (W1.out.trans (hb3.mono W1.out.size))
  clear hb3 d0 d1
  cases hf : findF m tx.toList with
  | none =>
    have HE2 : Hid (toldF m q a = false) := by show _ = _; rw [HE.out, hf, Bool.and_false]
    clear hf
    simp only [symRV]
    have W4 := Lib.hid (W3.out.alloc W3.out.size (.cells #[.int .i64 (-1), .int .i64 (-1), .bool false] 142))
    cases he : tx.toList.isEmpty <;> (go_wp2_with fail; go_ret; exact ⟨by rw [HE2.out]; rfl, W4.out⟩)
  | some x =>
    obtain ⟨p, b⟩ := x
    have HE2 : Hid (toldF m q a = (!tx.toList.isEmpty && (p == qi && ((b : Int) == (a : Int))))) := by show _ = _; rw [HE.out, hf]
    clear hf
    simp only [symRV]
    have W4 := Lib.hid (W3.out.alloc W3.out.size (.cells #[.int .i64 p, .int .i64 (b : Int), .bool true] 142))
    cases he : tx.toList.isEmpty with
    | true =>
      have HE3 : Hid (toldF m q a = false) := by show _ = _; rw [HE2.out, he]; rfl
      go_wp2_with fail
      go_ret
      exact ⟨by rw [HE3.out]; rfl, W4.out⟩
    | false =>
      cases h1 : (p == qi) with
      | false =>
        have HE3 : Hid (toldF m q a = false) := by show _ = _; rw [HE2.out, he, h1]; rfl
        go_wp2_with fail
        go_ret
        exact ⟨by rw [HE3.out]; rfl, W4.out⟩
      | true =>
        have HE3 : Hid (toldF m q a = ((b : Int) == (a : Int))) := by show _ = _; rw [HE2.out, he, h1]; rfl
        cases h2 : ((b : Int) == (a : Int)) with
        | true =>
          have HE4 : Hid (toldF m q a = true) := by show _ = _; rw [HE3.out, h2]
          go_wp2_with fail
          go_ret
          exact ⟨by rw [HE4.out]; rfl, W4.out⟩
        | false =>
          have HE4 : Hid (toldF m q a = false) := by show _ = _; rw [HE3.out, h2]
          go_wp2_with fail
          go_ret
          exact ⟨by rw [HE4.out]; rfl, W4.out⟩
end Go.Proofs.YtaakaajcpjiccaaDoor
