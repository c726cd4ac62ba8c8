/-
  The law's own: parts, of whatever steps; the law TreeParts.
-/
import Derived.Test.YteiialpecaebdaaDoorPl
set_option linter.unusedVariables false
set_option linter.unusedSimpArgs false
namespace Go.Proofs.YteiialpecaebdaaDoor
open Go.RowKit
open Go.Proofs
open Tree

set_option maxHeartbeats 2000000 in
theorem lawParts_leaf (xo xp xa xn xm : Int) (xt : ByteArray) (g o c : Nat) (w : World) (hm : mayB ⟨xo, xp, xa, xn, xm, xt⟩ = true) (h2 : takesI xo = 0) (hL : Laid w) (hr : w.rangeAt g o (stepL ⟨xo, xp, xa, xn, xm, xt⟩)) (hc : 1 ≤ c) :
    Calls Tryd.prog 13 #[.slice (some ⟨g, o, none⟩) 1 c] w (TrueB w) := by
  have hW : (leaf ⟨xo, xp, xa, xn, xm, xt⟩).Wf := ⟨hm, h2⟩
  have hS0 : SlAt w (some ⟨g, o, none⟩) (leaf ⟨xo, xp, xa, xn, xm, xt⟩).ser := .inr ⟨g, o, rfl, by simpa [ser, stepsL] using hr⟩
  have hsb : soundB [⟨xo, xp, xa, xn, xm, xt⟩] = true := (soundB_iff _).2 ⟨by simp, _, hW, rfl⟩
  have HP := Lib.hid (Parts_any (some ⟨g, o, none⟩) c [⟨xo, xp, xa, xn, xm, xt⟩] w hL hS0 (by simp) hc)
  have HSO := Lib.hid (fun w1 h1 h2 => sound_any (some ⟨g, o, none⟩) c [⟨xo, xp, xa, xn, xm, xt⟩] w1 h1 h2 (by simp))
  have HPL : Hid (∀ l r, partsS [⟨xo, xp, xa, xn, xm, xt⟩] l r → l = [] ∧ r = []) := fun l r h => partsS_ser hW (by simp [ser]) h
  have HL := Lib.hid hL
  have HS : Hid (SlAt w (some ⟨g, o, none⟩) [⟨xo, xp, xa, xn, xm, xt⟩]) := hS0
  have HRX := Lib.hid hr
  have hgl : g < w.heap.size := range_lt hr (by simp [stepL])
  have hop := ops_leaf hm h2
  simp only at hop
  clear hL hr hS0 hW hm h2
  rcases hop with rfl | rfl | rfl
  all_goals
    go_enter Tryd.func13, Tryd.ntmps13
    go_wp2_with fail
    refine HP.out.mono ?_
    rintro e w1 ⟨vl, vr, l', r', rfl, hp, hvl, hvr, hb1⟩
    obtain ⟨e1, e2⟩ := HPL.out _ _ hp
    subst l' r'
    obtain ⟨al, cl, rfl, hSl, hcl⟩ := own_sl hvl
    obtain ⟨ar, cr, rfl, hSr, hcr⟩ := own_sl hvr
    simp only [List.length_nil]
    have HB1 := Lib.hid hb1
    clear hvl hvr hSl hSr hp hb1
    go_wp2_with fail
    refine (HSO.out w1 (HL.out.below HB1.out) (HS.out.below HB1.out)).mono ?_
    rintro e w2 ⟨rfl, hb2⟩
    rw [hsb]
    have HRX2 : Hid (w2.rangeAt g o [.int .i64 _, .int .i64 xp, .int .i64 xa, .int .i64 xn, .int .i64 xm, .string xt]) := rangeAt_below HRX.out (bel2 HB1.out hb2) hgl
    have HB2 : Hid (Below w.heap.size w w2) := bel2 HB1.out hb2
    clear hb2
    go_wp2_with (refine wpList_load_mid (by rfl) 35 (.tmp 27) (by rfl) g o (by rfl) [.int .i64 _, .int .i64 xp, .int .i64 xa, .int .i64 xn, .int .i64 xm, .string xt] _ (by exact HRX2.out) Tryd.underlying35 (by rfl) size_S ?_)
    go_ret
    exact ⟨rfl, bel2 HB2.out (belA w2 _)⟩
theorem sound_nil : soundB [] = false := by
  cases h : soundB []
  · rfl
  · obtain ⟨_, T, _, e⟩ := (soundB_iff _).1 h
    have := T.ser_pos
    rw [← e] at this
    simp at this
theorem lawParts_tree : ∀ (T : Tree), T.Wf → T.ser.length ≤ 255 → ∀ (a : Option Addr) (c : Nat) (w : World), Laid w → SlAt w a T.ser → T.ser.length ≤ c →
    Calls Tryd.prog 13 #[.slice a T.ser.length c] w (TrueB w) := by
  intro T
  induction T with
  | leaf x =>
    intro hW h255 a c w hL hS hc
    obtain ⟨xo, xp, xa, xn, xm, xt⟩ := x
    rcases hS with h | ⟨g, o, rfl, hr⟩
    · simp [ser] at h
    · exact lawParts_leaf xo xp xa xn xm xt g o c w hW.1 hW.2 hL (by simpa [ser, stepsL] using hr) (by simpa [ser] using hc)
  | one x a ih =>
    intro hW h255 ad c w hL hS hc
    have hW' := hW
    obtain ⟨hm, ht, ha⟩ := hW'
    have hlen : (one x a).ser.length = a.ser.length + 1 := by simp [ser]
    have hsb := (soundB_iff _).2 ⟨h255, _, hW, rfl⟩
    have hsr := (soundB_iff _).2 ⟨(by omega : a.ser.length ≤ 255), _, ha, rfl⟩
    rcases hS with h | ⟨g, o, rfl, hr⟩
    · have := congrArg List.length h; rw [hlen] at this; simp at this
    · have hrx := last_at hr
      rw [hlen] at hrx hc ⊢
      obtain ⟨xo, xp, xa, xn, xm, xt⟩ := x
      exact lawParts_one _ a.ser xo xp xa xn xm xt g o c a.ser.length w (by simp [ser]) (by simp [ser]) hsb (fun l r h => partsS_ser hW h255 h) sound_nil hsr (ops_one ht) (by omega) hr hrx hL hc (fun a c w h1 h2 h3 => ih ha (by omega) a c w h1 h2 h3)
  | two x a b iha ihb =>
    intro hW h255 ad c w hL hS hc
    have hW' := hW
    obtain ⟨hm, ht, ha, hb⟩ := hW'
    have hlen : (two x a b).ser.length = (a.ser.length + b.ser.length) + 1 := by simp [ser]; omega
    have hsb := (soundB_iff _).2 ⟨h255, _, hW, rfl⟩
    have hsl := (soundB_iff _).2 ⟨(by omega : a.ser.length ≤ 255), _, ha, rfl⟩
    have hsr := (soundB_iff _).2 ⟨(by omega : b.ser.length ≤ 255), _, hb, rfl⟩
    rcases hS with h | ⟨g, o, rfl, hr⟩
    · have := congrArg List.length h; rw [hlen] at this; simp at this
    · have hrx := last_at hr
      rw [hlen] at hrx hc ⊢
      obtain ⟨xo, xp, xa, xn, xm, xt⟩ := x
      exact lawParts_two _ a.ser b.ser xo xp xa xn xm xt g o c (a.ser.length + b.ser.length) w (by simp [ser]) hlen hsb (fun l r h => partsS_ser hW h255 h) hsl hsr (ops_two ht) (by omega) hr hrx hL hc (fun a c w h1 h2 h3 => iha ha (by omega) a c w h1 h2 h3) (fun a c w h1 h2 h3 => ihb hb (by omega) a c w h1 h2 h3)
theorem lawParts_any (a : Option Addr) (c : Nat) (t : List StepD) (w : World) (hL : Laid w) (hS : SlAt w a t) (hl : t.length ≤ 1000) (hc : t.length ≤ c) :
    Calls Tryd.prog 13 #[.slice a t.length c] w (TrueB w) := by
  cases hb : soundB t
  · exact lawParts_no a c t w hL hS hl hc hb
  · obtain ⟨h255, T, hT, rfl⟩ := (soundB_iff t).1 hb
    exact lawParts_tree T hT h255 a c w hL hS hc
theorem four {w : World} {b : Nat} {h1 p1 n1 : Int} {t1 : ByteArray} (h : ∀ (j : Nat) (v : Value), (#[.int .i64 h1, .int .i64 p1, .int .i64 n1, .string t1] : Array Value)[j]? = some v → w.cell? ⟨b, j, none⟩ = some v) :
    w.cell? ⟨b, 0, none⟩ = some (.int .i64 h1) ∧ w.cell? ⟨b, 1, none⟩ = some (.int .i64 p1) ∧ w.cell? ⟨b, 2, none⟩ = some (.int .i64 n1) ∧ w.cell? ⟨b, 3, none⟩ = some (.string t1) := ⟨h 0 _ rfl, h 1 _ rfl, h 2 _ rfl, h 3 _ rfl⟩
set_option maxHeartbeats 4000000 in
theorem treeParts_any (a : Option Addr) (n c : Nat) (h1 p1 n1 : Int) (t1 : ByteArray) (w : World) (hL : Laid w) (hI : IntsIn w a n c) (hx1 : t1.size ≤ maxLen) :
    Calls Tryd.prog 4 #[.slice a n c, turnV h1 p1 n1 t1] w fun e w' => e = .returned (.bool true) ∧ Below w.heap.size w w' := by
  have HL := Lib.hid hL
  have HI := Lib.hid hI
  clear hL hI
  go_enter Tryd.func4, Tryd.ntmps4
  go_wp2_with fail
  have HB0 := Lib.hid (belA w (.cells #[.int .i64 h1, .int .i64 p1, .int .i64 n1, .string t1] 24))
  have HQ := Lib.hid (cellNew w #[.int .i64 h1, .int .i64 p1, .int .i64 n1, .string t1] 24)
  generalize w.alloc (.cells #[.int .i64 h1, .int .i64 p1, .int .i64 n1, .string t1] 24) = w0 at HB0 HQ ⊢
  refine (awake_any w0 (HL.out.below HB0.out)).mono ?_
  rintro e w1 ⟨rfl, hb1⟩
  have HB1 : Hid (Below w.heap.size w w1) := bel2 HB0.out hb1
  have HQ1 : Hid (∀ (j : Nat) (v : Value), (#[.int .i64 h1, .int .i64 p1, .int .i64 n1, .string t1] : Array Value)[j]? = some v → w1.cell? ⟨w.heap.size, j, none⟩ = some v) := fun j v h => cell_below (HQ.out j v h) hb1
  have HQd : Hid (∀ (j : Nat) (v : Value), (#[.int .i64 h1, .int .i64 p1, .int .i64 n1, .string t1] : Array Value)[j]? = some v → w1.drew.cell? ⟨w.heap.size, j, none⟩ = some v) := fun j v h => by rw [World.cell?_drew]; exact HQ1.out j v h
  clear hb1
  go_wp2_with fail
  go_region_with (first
    | (go_at_call 13; refine (lawParts_any a3 c3 t3 _ (HL.out.below hB4) hS3 (by omega) hc3).mono ?_; rintro e u5 ⟨rfl, hb5⟩; have hB5 := bel2 hB4 hb5)
    | (go_at_call 11; refine (spoilt_any a2 c2 h1 p1 n1 t1 T2.ser _ hs2.texts hS2 (by omega) hc2 hx1).mono ?_; rintro e u4 ⟨v, t3, rfl, hO3, hX3, hl3, hb4⟩; have hB4 := bel2 hB3 hb4; obtain ⟨a3, c3, rfl, hS3, hc3⟩ := own_sl hO3)
    | (go_at_call 10; refine (made_any a n c _ (HI.out.below hB2)).mono ?_; rintro e u3 ⟨v, T2, rfl, ⟨hT2, hs2⟩, hl2, hO2, hb3⟩; have hB3 := bel2 hB2 hb3; obtain ⟨a2, c2, rfl, hS2, hc2⟩ := own_sl hO2; have hQ3 := fun j v h => cell_below (hQ2 j v h) hb3; obtain ⟨q30, q31, q32, q33⟩ := four hQ3)
    | (go_at_call 13; refine (lawParts_any a1 c1 T1.ser _ (HL.out.below hB1) hS1 (by omega) hc1).mono ?_; rintro e u2 ⟨rfl, hb2⟩; have hB2 := bel2 hB1 hb2; have hQ2 := fun j v h => cell_below (hQ1 j v h) hb2; obtain ⟨q20, q21, q22, q23⟩ := four hQ2)
    | (go_at_call 10; refine (made_any a n c _ (HI.out.below HB1.out.drew)).mono ?_; rintro e u1 ⟨v, T1, rfl, ⟨hT1, hs1⟩, hl1, hO1, hb1⟩; have hB1 := bel2 HB1.out.drew hb1; obtain ⟨a1, c1, rfl, hS1, hc1⟩ := own_sl hO1; have hQ1 : ∀ (j : Nat) (v : Value), (#[.int .i64 h1, .int .i64 p1, .int .i64 n1, .string t1] : Array Value)[j]? = some v → u1.cell? ⟨w.heap.size, j, none⟩ = some v := fun j v h => cell_below (HQd.out j v h) hb1))
  all_goals
    go_wp2_with fail
    go_ret
    exact ⟨rfl, hB5⟩
end Go.Proofs.YteiialpecaebdaaDoor
