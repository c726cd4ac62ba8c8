/-
  atoms.worth: the closure that tells a wrong term; slices.ContainsFunc with it.
-/
import Derived.Test.YtiinppicdhidhaaDoorTk
import Derived.Test.YtiinppicdhidhaaDoorMk
import Derived.Test.YtiinppicdhidhaaDoorEb
set_option linter.unusedVariables false
set_option linter.unusedSimpArgs false
namespace Go.Proofs.YtiinppicdhidhaaDoor
open Go.RowKit
open Go.Proofs

/-- A term that may not be. -/
def badT (t : List AtomD) (at' : Int) (x : Int × Int) : Bool :=
  decide (x.1 < 0) || decide (at' ≤ x.1) || decide (x.2 < -9) || decide (9 < x.2) || decide (x.2 = 0) || decide ((t[x.1.toNat]?.getD default).tag ≠ 0)
set_option maxRecDepth 100000 in
set_option maxHeartbeats 4000000 in
theorem term_bad (xa xe : Int) (n : Nat) (Ab Tb b off cap : Nat) (t : List AtomD) (w : World) (hA : w.cell? ⟨Ab, 0, none⟩ = some (.int .i64 (n : Int))) (hT : w.cell? ⟨Tb, 0, none⟩ = some (.slice (some ⟨b, off, none⟩) t.length cap))
    (hR : w.rangeAt b off (atomsL t)) (hn : n < t.length) (hlen : t.length ≤ 10000) :
    Calls Tryd.prog 31 #[.agg #[.int .i64 xa, .int .i64 xe], .pointer (some ⟨Ab, 0, none⟩), .pointer (some ⟨Tb, 0, none⟩)] w fun e w' => e = .returned (.bool (badT t n (xa, xe))) ∧ Below w.heap.size w w' := by
  have HR := Lib.hid hR
  clear hR
  by_cases h1 : xa < 0
  · have HO : Hid (badT t n (xa, xe) = true) := by show _ = _; simp [badT, h1]
    go_enter Tryd.func31, Tryd.ntmps31
    go_wp2_with fail
    go_ret
    exact ⟨by rw [HO.out]; rfl, (Below.refl _ _).alloc (Nat.le_refl _) _⟩
  have d1 : decide (xa < 0) = false := decide_eq_false h1
  have hA2 : (w.alloc (.cells #[.int .i64 xa, .int .i64 xe] 37)).cell? ⟨Ab, 0, none⟩ = some (.int .i64 (n : Int)) := cellAlloc _ hA
  have hT2 : (w.alloc (.cells #[.int .i64 xa, .int .i64 xe] 37)).cell? ⟨Tb, 0, none⟩ = some (.slice (some ⟨b, off, none⟩) t.length cap) := cellAlloc _ hT
  by_cases h2 : (n : Int) ≤ xa
  · have HO : Hid (badT t n (xa, xe) = true) := by show _ = _; simp [badT, h2]
    go_enter Tryd.func31, Tryd.ntmps31
    go_wp2_with fail
    go_ret
    exact ⟨by rw [HO.out]; rfl, (Below.refl _ _).alloc (Nat.le_refl _) _⟩
  have d2 : decide ((n : Int) ≤ xa) = false := decide_eq_false h2
  by_cases h3 : xe < -9
  · have HO : Hid (badT t n (xa, xe) = true) := by show _ = _; simp [badT, h3]
    go_enter Tryd.func31, Tryd.ntmps31
    go_wp2_with fail
    go_ret
    exact ⟨by rw [HO.out]; rfl, (Below.refl _ _).alloc (Nat.le_refl _) _⟩
  have d3 : decide (xe < -9) = false := decide_eq_false h3
  by_cases h4 : 9 < xe
  · have HO : Hid (badT t n (xa, xe) = true) := by show _ = _; simp [badT, h4]
    go_enter Tryd.func31, Tryd.ntmps31
    go_wp2_with fail
    go_ret
    exact ⟨by rw [HO.out]; rfl, (Below.refl _ _).alloc (Nat.le_refl _) _⟩
  have d4 : decide (9 < xe) = false := decide_eq_false h4
  by_cases h5 : xe = 0
  · have HO : Hid (badT t n (xa, xe) = true) := by show _ = _; simp [badT, h5]
    subst h5
    go_enter Tryd.func31, Tryd.ntmps31
    go_wp2_with fail
    go_ret
    exact ⟨by rw [HO.out]; rfl, (Below.refl _ _).alloc (Nat.le_refl _) _⟩
  obtain ⟨k, rfl⟩ : ∃ k : Nat, xa = k := ⟨xa.toNat, by omega⟩
  have hk : k < t.length := by omega
  have hc : w.cell? ⟨b, off + k * 12 + 6, none⟩ = some (.int .i64 t[k].tag) := atomD_range HR.out k hk 6 _ rfl
  have hc2 : (w.alloc (.cells #[.int .i64 k, .int .i64 xe] 37)).cell? ⟨b, off + k * 12 + 6, none⟩ = some (.int .i64 t[k].tag) := cellAlloc _ hc
  have HO : Hid (badT t n (k, xe) = decide (t[k].tag ≠ 0)) := by
    show _ = _
    have h1' : decide ((k : Int) < 0) = false := d1
    have h2' : decide ((n : Int) ≤ k) = false := by simpa using h2
    simp only [badT, h1', h2', decide_eq_false h3, decide_eq_false h4, decide_eq_false h5, Bool.false_or, Int.toNat_natCast, List.getElem?_eq_getElem hk, Option.getD_some]
  generalize t[k].tag = g at hc hc2 HO
  have h5' : (xe == 0) = false := by simpa using h5
  have d5 : decide (xe = 0) = false := decide_eq_false h5
  have hk2 : k < 10000 := by omega
  go_enter Tryd.func31, Tryd.ntmps31
  go_wp2_with fail
  go_ret
  exact ⟨by rw [HO.out]; by_cases hg : g = 0 <;> simp [hg], (Below.refl _ _).alloc (Nat.le_refl _) _⟩

/-- Terms as plain cells. -/
def termL (x : Int × Int) : List Value := [.int .i64 x.1, .int .i64 x.2]
def termsL (ts : List (Int × Int)) : List Value := ts.flatMap termL
theorem termsL_length (ts : List (Int × Int)) : (termsL ts).length = ts.length * 2 := by
  induction ts with
  | nil => rfl
  | cons x r ih => simp [termsL, termL] at ih ⊢; omega
theorem term_range {w : World} {g o : Nat} {ts : List (Int × Int)} (h : w.rangeAt g o (termsL ts)) (k : Nat) (hk : k < ts.length) : w.rangeAt g (o + k * 2) (termL ts[k]) := by
  intro j v hj
  have h2 := h (k * 2 + j) v
  rw [← Nat.add_assoc] at h2
  apply h2
  have hd := flat_take termL 2 ts (fun x _ => rfl) k hk
  rw [← hd, List.getElem?_take] at hj
  split at hj
  · rwa [List.getElem?_drop] at hj
  · cases hj
theorem size_Term : (Tryd.prog.info? 37).map (·.size) = some 2 := by kernel_rfl
/-- The place of the first wrong term. -/
def idxT (p : Int × Int → Bool) (ts : List (Int × Int)) : Int := match ts.findIdx? p with
  | some k => k
  | none => -1
theorem idxT_at (p : Int × Int → Bool) (ts : List (Int × Int)) (k : Nat) (hk : k < ts.length) (h0 : ∀ j (h : j < k), p (ts[j]'(by omega)) = false) (h1 : p ts[k] = true) : idxT p ts = k := by
  unfold idxT
  rw [(List.findIdx?_eq_some_iff_getElem).2 ⟨hk, h1, fun j hj => by simpa using h0 j hj⟩]
theorem idxT_none (p : Int × Int → Bool) (ts : List (Int × Int)) (h0 : ∀ j (h : j < ts.length), p ts[j] = false) : idxT p ts = -1 := by
  unfold idxT
  rw [List.findIdx?_eq_none_iff.2 (fun x hx => by
    obtain ⟨j, hj, rfl⟩ := List.getElem_of_mem hx
    exact h0 j hj)]
/-- A slice of terms at a world: of none, or in a block. -/
def TermsIn (w : World) (a : Option Addr) (ts : List (Int × Int)) : Prop := ts = [] ∨ ∃ b off, a = some ⟨b, off, none⟩ ∧ w.rangeAt b off (termsL ts) ∧ b < w.heap.size
set_option maxRecDepth 100000 in
set_option maxHeartbeats 4000000 in
theorem index_term (ts : List (Int × Int)) (ta : Option Addr) (tc : Nat) (n : Nat) (Ab Tb b off cap : Nat) (t : List AtomD) (w : World) (hA : w.cell? ⟨Ab, 0, none⟩ = some (.int .i64 (n : Int))) (hT : w.cell? ⟨Tb, 0, none⟩ = some (.slice (some ⟨b, off, none⟩) t.length cap))
    (hR : w.rangeAt b off (atomsL t)) (hn : n < t.length) (hlen : t.length ≤ 10000) (hts : TermsIn w ta ts) (htl : ts.length ≤ 10000) :
    Calls Tryd.prog 41 #[.slice ta ts.length tc, .func (.func 31) #[] #[.pointer (some ⟨Ab, 0, none⟩), .pointer (some ⟨Tb, 0, none⟩)]] w fun e w' => e = .returned (.int .i64 (idxT (badT t n) ts)) ∧ Below w.heap.size w w' := by
  have HR := Lib.hid hR
  have HT := Lib.hid hts
  clear hR hts
  go_enter Tryd.func41, Tryd.ntmps41
  go_wp2
  go_loopw [8] (fun i wr => ∃ k : Nat, k ≤ ts.length ∧ i = .int .i64 (k : Int) ∧ (∀ j (h : j < k) (h' : j < ts.length), badT t n ts[j] = false) ∧ Below w.heap.size w wr)
    (fun i _ => ts.length - (intOf i).toNat)
  case atStart => exact ⟨0, by omega, rfl, fun j h => by omega, Below.refl _ _⟩
  case round =>
    obtain ⟨k, hk, rfl, h0, hbw⟩ := hrel
    have H0 := Lib.hid h0
    have HBW := Lib.hid hbw
    clear h0 hbw
    by_cases hlt : k < ts.length
    · obtain ⟨tb, toff, hta, hr, hlt2⟩ : ∃ tb toff, ta = some ⟨tb, toff, none⟩ ∧ w.rangeAt tb toff (termsL ts) ∧ tb < w.heap.size := by
        rcases HT.out with rfl | h
        · simp at hlt
        · exact h
      subst hta
      have HV := Lib.hid (range_below (term_range hr k hlt) HBW.out hlt2)
      obtain ⟨x, hx⟩ : ∃ x, ts[k] = x := ⟨_, rfl⟩
      rw [hx] at HV
      obtain ⟨xa, xe⟩ := x
      have HX := Lib.hid hx
      clear hx
      obtain ⟨c, hc⟩ : ∃ c, badT t n (xa, xe) = c := ⟨_, rfl⟩
      have HC := Lib.hid hc
      have HB : Hid (b < w.heap.size) := range_lt HR.out (by
        cases t with
        | nil => simp at hn
        | cons y r => simp [atomsL, atomL])
      clear hc
      cases c
      · go_wp2_with (first | (refine wpList_load_mid rfl 37 _ rfl tb _ rfl _ _ HV.out Tryd.underlying37 rfl size_Term ?_) | (go_at_call 31; refine (term_bad xa xe n Ab Tb b off cap t _ (cell_under hA HBW.out) (cell_under hT HBW.out) (range_below HR.out HBW.out HB.out) hn hlen).mono ?_; rintro e w1 ⟨rfl, hb1⟩; rw [HC.out]; have HB1 := Lib.hid hb1; clear hb1) | go_in)
        go_roundw
        case rel =>
          refine ⟨k + 1, by omega, by go_num, fun j hj h' => ?_, HBW.out.trans (HB1.out.mono HBW.out.size)⟩
          by_cases hjk : j < k
          · exact H0.out j hjk h'
          · have : j = k := by omega
            subst this
            rw [HX.out, HC.out]
        case measure => simp [intOf]; omega
      · go_wp2_with (first | (refine wpList_load_mid rfl 37 _ rfl tb _ rfl _ _ HV.out Tryd.underlying37 rfl size_Term ?_) | (go_at_call 31; refine (term_bad xa xe n Ab Tb b off cap t _ (cell_under hA HBW.out) (cell_under hT HBW.out) (range_below HR.out HBW.out HB.out) hn hlen).mono ?_; rintro e w1 ⟨rfl, hb1⟩; rw [HC.out]; have HB1 := Lib.hid hb1; clear hb1) | go_in)
        go_ret
        exact ⟨by rw [idxT_at _ _ k hlt (fun j h => H0.out j h (by omega)) (by rw [HX.out, HC.out])]; rfl, HBW.out.trans (HB1.out.mono HBW.out.size)⟩
    · have hk' : k = ts.length := by omega
      subst hk'
      go_wp2_with fail
      go_ret
      exact ⟨by rw [idxT_none _ _ (fun j h => H0.out j h h)]; rfl, HBW.out⟩
end Go.Proofs.YtiinppicdhidhaaDoor
