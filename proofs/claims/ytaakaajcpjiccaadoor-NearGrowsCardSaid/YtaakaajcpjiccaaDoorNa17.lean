/-
  symbol: the book's atom of a code.
-/
import Derived.WalkKit
import Derived.LoopTactic
import Derived.BigQuiet
import Derived.Deep.QuietTactic
import Derived.WalkLawsBesides
import Derived.Deep.LoopGhost
import Derived.Lib.Hide
import Derived.IntWalk
import Derived.Deep.RegionHeld3
import Derived.StillTailTactics
import Derived.Test.YtaakaajcpjiccaaDoorNa16
set_option linter.unusedVariables false
set_option linter.unusedSimpArgs false
namespace Go.Proofs.YtaakaajcpjiccaaDoor
open Go.RowKit
open Go.Proofs

/-- Codes of an atom. -/
def codesA (x : AtomD) : Nat → ByteArray
  | 0 => x.c0
  | 1 => x.c1
  | 2 => x.c2
  | 3 => x.c3
  | 4 => x.c4
  | _ => ⟨#[]⟩
theorem codesA_cell (x : AtomD) (m : Nat) (hm : m < 5) : (atomL x)[m]? = some (.string (codesA x m)) := by
  rcases m with _ | _ | _ | _ | _ | m <;> first | rfl | omega
set_option maxRecDepth 100000 in
set_option maxHeartbeats 2000000 in
theorem atomIs_any (x : AtomD) (s : ByteArray) (m Bb Cb : Nat) (w : World) (hm : m < 5) (hB : w.cell? ⟨Bb, 2, none⟩ = some (.int .i64 ((m : Int) + 1))) (hC : w.cell? ⟨Cb, 0, none⟩ = some (.string s)) (hBl : Bb < w.heap.size) (hCl : Cb < w.heap.size) :
    Calls Tryd.prog 96 #[.agg (atomL x).toArray, .pointer (some ⟨Bb, 0, none⟩), .pointer (some ⟨Cb, 0, none⟩)] w fun e w' => e = .returned (.bool ((codesA x m).toList == s.toList)) ∧ Below w.heap.size w w' := by
  have hcell := cellNew w (atomL x).toArray 124 m _ (by simpa using codesA_cell x m hm)
  obtain ⟨cm, hcm⟩ : ∃ c, codesA x m = c := ⟨_, rfl⟩
  rw [hcm] at hcell ⊢
  have HCM := Lib.hid hcm
  clear hcm
  obtain ⟨x0, x1, x2, x3, x4, xm, xt, xb, xn, xd, xe, xa, xl, xc⟩ := x
  simp only [atomL] at hcell ⊢
  have hB2 := cellAlloc (.cells [Value.string x0, .string x1, .string x2, .string x3, .string x4, .bool xm, .int .i64 xt, .int .i64 xb, .int .i64 xn, .int .i64 xd, .int .i64 xe, .slice xa xl xc].toArray 124) hB
  have hC2 := cellAlloc (.cells [Value.string x0, .string x1, .string x2, .string x3, .string x4, .bool xm, .int .i64 xt, .int .i64 xb, .int .i64 xn, .int .i64 xd, .int .i64 xe, .slice xa xl xc].toArray 124) hC
  have bel : Hid (Below w.heap.size w (w.alloc (.cells [Value.string x0, .string x1, .string x2, .string x3, .string x4, .bool xm, .int .i64 xt, .int .i64 xb, .int .i64 xn, .int .i64 xd, .int .i64 xe, .slice xa xl xc].toArray 124))) := (Below.refl _ _).alloc (Nat.le_refl _) _
  have v1 : IntKind.i64.wrap (m : Int) = (m : Int) := IntWalk.i64_in _ (by omega)
  have v2 : (m : Int) < 5 := by omega
  have v3 : 0 ≤ (m : Int) := by omega
  clear hB hC
  go_enter Tryd.func96, Tryd.ntmps96
  go_wp2_with fail
  generalize w.alloc (.cells #[Value.string x0, .string x1, .string x2, .string x3, .string x4, .bool xm, .int .i64 xt, .int .i64 xb, .int .i64 xn, .int .i64 xd, .int .i64 xe, .slice xa xl xc] 124) = W at hcell hB2 hC2 bel ⊢
  go_quiet (fail)
  go_wp2_with fail
  go_ret
  exact ⟨rfl, below_drewN bel.out _⟩
/-- The place of the first atom that has a code. -/
def idxA (t : List AtomD) (m : Nat) (s : ByteArray) : Int := match t.findIdx? fun x => (codesA x m).toList == s.toList with
  | some k => k
  | none => -1
theorem idxA_at (t : List AtomD) (m : Nat) (s : ByteArray) (k : Nat) (hk : k < t.length) (h0 : ∀ j (h : j < k), ((codesA (t[j]'(by omega)) m).toList == s.toList) = false) (h1 : ((codesA t[k] m).toList == s.toList) = true) : idxA t m s = k := by
  unfold idxA
  rw [(List.findIdx?_eq_some_iff_getElem).2 ⟨hk, h1, fun j hj => by simpa using h0 j hj⟩]
theorem idxA_none (t : List AtomD) (m : Nat) (s : ByteArray) (h0 : ∀ j (h : j < t.length), ((codesA t[j] m).toList == s.toList) = false) : idxA t m s = -1 := by
  unfold idxA
  rw [List.findIdx?_eq_none_iff.2 (fun x hx => by
    obtain ⟨j, hj, rfl⟩ := List.getElem_of_mem hx
    exact h0 j hj)]
def NoA (t : List AtomD) (m : Nat) (s : ByteArray) (k : Nat) : Prop := ∀ j (h : j < k) (h' : j < t.length), ((codesA t[j] m).toList == s.toList) = false
set_option maxRecDepth 100000 in
set_option maxHeartbeats 4000000 in
theorem indexA_any (t : List AtomD) (s : ByteArray) (m Bb Cb b off cap : Nat) (w : World) (hm : m < 5) (hB : w.cell? ⟨Bb, 2, none⟩ = some (.int .i64 ((m : Int) + 1))) (hC : w.cell? ⟨Cb, 0, none⟩ = some (.string s)) (hBl : Bb < w.heap.size) (hCl : Cb < w.heap.size)
    (hR : w.rangeAt b off (atomsL t)) (hlen : t.length ≤ 10000) (hbl : b < w.heap.size) :
    Calls Tryd.prog 95 #[.slice (some ⟨b, off, none⟩) t.length cap, .func (.func 96) #[] #[.pointer (some ⟨Bb, 0, none⟩), .pointer (some ⟨Cb, 0, none⟩)]] w fun e w' => e = .returned (.int .i64 (idxA t m s)) ∧ Below w.heap.size w w' := by
  have HR := Lib.hid hR
  clear hR
  go_enter Tryd.func95, Tryd.ntmps95
  go_wp2
  go_loopw [8] (fun i wr => ∃ k : Nat, k ≤ t.length ∧ i = .int .i64 (k : Int) ∧ NoA t m s k ∧ Below w.heap.size w wr) (fun i _ => t.length - (intOf i).toNat)
  case atStart => exact ⟨0, by omega, rfl, fun j h => by omega, Below.refl _ _⟩
  case round =>
    obtain ⟨k, hk, rfl, h0, hbw⟩ := hrel
    have H0 := Lib.hid h0
    have HBW := Lib.hid hbw
    clear h0 hbw
    by_cases hlt : k < t.length
    · have HV := Lib.hid (range_below (atomD_range HR.out k hlt) HBW.out hbl)
      obtain ⟨x, hx⟩ : ∃ x, t[k] = x := ⟨_, rfl⟩
      rw [hx] at HV
      have HX := Lib.hid hx
      obtain ⟨c, hc⟩ : ∃ c, ((codesA x m).toList == s.toList) = c := ⟨_, rfl⟩
      have HC := Lib.hid hc
      have HIS := Lib.hid (fun (X : World) (hb : Below w.heap.size w X) => atomIs_any x s m Bb Cb X hm (cell_under hB hb) (cell_under hC hb) (by have := hb.size; omega) (by have := hb.size; omega))
      clear hc hx
      obtain ⟨x0, x1, x2, x3, x4, xm, xt, xb, xn, xd, xe, xa, xl, xc⟩ := x
      simp only [atomL] at HIS
      have HW : Hid (wr.rangeAt b (off + k * 12) [.string x0, .string x1, .string x2, .string x3, .string x4, .bool xm, .int .i64 xt, .int .i64 xb, .int .i64 xn, .int .i64 xd, .int .i64 xe, .slice xa xl xc]) := HV
      clear HV
      cases c
      · go_wp2_with (first | (refine wpList_load_mid rfl 124 _ rfl b _ rfl _ _ HW.out Tryd.underlying124 rfl size_Atom ?_) | (go_at_call 96; refine (HIS.out _ HBW.out).mono ?_; rintro e w1 ⟨rfl, hb1⟩; rw [HC.out]; have HB1 := Lib.hid hb1; clear hb1))
        go_roundw
        case rel =>
          refine ⟨k + 1, by omega, by go_num, fun j hj h' => ?_, HBW.out.trans (HB1.out.mono HBW.out.size)⟩
          by_cases hjk : j < k
          · exact H0.out j hjk h'
          · have : j = k := by omega
            subst this
            rw [HX.out, HC.out]
        case measure => simp [intOf]; omega
      · go_wp2_with (first | (refine wpList_load_mid rfl 124 _ rfl b _ rfl _ _ HW.out Tryd.underlying124 rfl size_Atom ?_) | (go_at_call 96; refine (HIS.out _ HBW.out).mono ?_; rintro e w1 ⟨rfl, hb1⟩; rw [HC.out]; have HB1 := Lib.hid hb1; clear hb1))
        go_ret
        exact ⟨by rw [idxA_at t m s k hlt (fun j h => H0.out j h (by omega)) (by rw [HX.out, HC.out])]; rfl, HBW.out.trans (HB1.out.mono HBW.out.size)⟩
    · have hk' : k = t.length := by omega
      subst hk'
      go_wp2_with fail
      go_ret
      exact ⟨by rw [idxA_none _ _ _ (fun j h => H0.out j h h)]; rfl, HBW.out⟩
/-! The book's. -/
def orI : Option Nat → Int
  | some a => a
  | none => -1
/-- The table at a world, as a book has it. -/
structure BookIn (w : World) (g g2 : Nat) (ss : Nat → Value) : Prop where
  atoms : w.rangeAt g 0 (atomsL (tabD ss))
  glt : g < w.heap.size
  pres : w.rangeAt g2 0 (presV tabPres)
  g2lt : g2 < w.heap.size
theorem BookIn.below {w w' : World} {g g2 : Nat} {ss : Nat → Value} (h : BookIn w g g2 ss) (hb : Below w.heap.size w w') : BookIn w' g g2 ss :=
  ⟨range_below h.atoms hb h.glt, Nat.lt_of_lt_of_le h.glt hb.size, range_below h.pres hb h.g2lt, Nat.lt_of_lt_of_le h.g2lt hb.size⟩
theorem codesA_rowD (ss : Nat → Value) (i k : Nat) (hk : k < 5) : codesA (rowD ss i) k = ⟨(codeAt i k).toArray⟩ := by
  rcases k with _ | _ | _ | _ | _ | k <;> first | rfl | omega
theorem tabD_getE (ss : Nat → Value) (i : Nat) (h : i < (tabD ss).length) : (tabD ss)[i] = rowD ss i := by simp [tabD]
theorem idxA_tab (ss : Nat → Value) (m : Nat) (hm : m < 5) (s : ByteArray) (hs : s.toList.isEmpty = false) : idxA (tabD ss) m s = orI (atomF m s.toList) := by
  have e : ∀ i, (codesA (rowD ss i) m).toList = codeAt i m := fun i => by rw [codesA_rowD ss i m hm, ByteArray.toList_eq]
  unfold atomF
  rw [hs]
  simp only [Bool.false_eq_true, if_false]
  cases hf : (List.range 48).find? (fun i => codeAt i m == s.toList) with
  | none =>
    refine idxA_none _ _ _ fun j hj => ?_
    rw [tabD_length] at hj
    rw [tabD_getE, e]
    have := List.find?_eq_none.1 hf j (by simpa using hj)
    simpa using this
  | some a =>
    rw [List.find?_range_eq_some] at hf
    obtain ⟨h1, h2, h3⟩ := hf
    have ha : a < 48 := by simpa using h2
    refine idxA_at _ _ _ a (by rw [tabD_length]; exact ha) (fun j hj => ?_) ?_
    · rw [tabD_getE, e]; simpa using h3 j hj
    · rw [tabD_getE, e]; exact h1
abbrev bookV (g c1 g2 c2 m : Nat) : Value := .agg #[.slice (some ⟨g, 0, none⟩) 48 c1, .slice (some ⟨g2, 0, none⟩) 20 c2, .int .i64 ((m : Int) + 1)]
set_option maxRecDepth 100000 in
set_option maxHeartbeats 4000000 in
theorem bookAtom_any (g c1 g2 c2 m : Nat) (ss : Nat → Value) (s : ByteArray) (w : World) (hm : m < 5) (hB : BookIn w g g2 ss) :
    Calls Tryd.prog 85 #[bookV g c1 g2 c2 m, .string s] w fun e w' => e = .returned (.int .i64 (orI (atomF m s.toList))) ∧ Below w.heap.size w w' := by
  have HB := Lib.hid hB
  have w2 : Below w.heap.size w ((w.alloc (.cells #[.slice (some ⟨g, 0, none⟩) 48 c1, .slice (some ⟨g2, 0, none⟩) 20 c2, .int .i64 ((m : Int) + 1)] 91)).alloc (.cells #[.string s] 9)) := ((Below.refl _ _).alloc (Nat.le_refl _) _).alloc (by simp) _
  have W2 := Lib.hid w2
  clear hB w2
  cases hs : s.toList.isEmpty with
  | true =>
    have HO : Hid (orI (atomF m s.toList) = -1) := by show _ = _; rw [atomF, if_pos hs]; rfl
    go_enter Tryd.func85, Tryd.ntmps85
    go_wp2_with fail
    go_ret
    exact ⟨by rw [HO.out]; rfl, W2.out⟩
  | false =>
    have HO := Lib.hid (idxA_tab ss m hm s hs)
    go_enter Tryd.func85, Tryd.ntmps85
    go_wp2_with fail
    refine (by
      have h := indexA_any (tabD ss) s m w.heap.size (w.heap.size + 1) g 0 c1 ((w.alloc (.cells #[.slice (some ⟨g, 0, none⟩) 48 c1, .slice (some ⟨g2, 0, none⟩) 20 c2, .int .i64 ((m : Int) + 1)] 91)).alloc (.cells #[.string s] 9)) hm (cellAlloc _ (cellNew w _ _ 2 _ rfl)) (by
        have := cellNew (w.alloc (.cells #[.slice (some ⟨g, 0, none⟩) 48 c1, .slice (some ⟨g2, 0, none⟩) 20 c2, .int .i64 ((m : Int) + 1)] 91)) #[.string s] 9 0 _ rfl
        rwa [World.size_alloc] at this) (by simp; omega) (by simp) (range_below HB.out.atoms W2.out HB.out.glt) (by rw [tabD_length]; omega) (by have := HB.out.glt; simp; omega)
      rw [tabD_length] at h
      exact h : Calls _ _ _ _ _).mono ?_
    rintro e w1 ⟨rfl, hb1⟩
    rw [HO.out]
    have HB1 := Lib.hid hb1
    clear hb1
    go_wp2_with fail
    go_ret
    exact ⟨rfl, W2.out.trans (HB1.out.mono (by simp; omega))⟩
end Go.Proofs.YtaakaajcpjiccaaDoor
