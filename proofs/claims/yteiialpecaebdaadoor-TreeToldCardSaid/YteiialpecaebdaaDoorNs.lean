/-
  nest, Nest, Parts: the contracts.
-/
import Derived.Test.YteiialpecaebdaaDoorNe
set_option linter.unusedVariables false
set_option linter.unusedSimpArgs false
namespace Go.Proofs.YteiialpecaebdaaDoor
open Go.RowKit
open Go.Proofs
open Tree

theorem root_cell {w : World} {g o : Nat} {T : Tree} (h : w.rangeAt g o (stepsL T.ser)) (n : Nat) (hn : T.ser.length = n + 1) : w.cell? ⟨g, o + n * 6, none⟩ = some (.int .i64 T.root.op) := by
  obtain ⟨l, hl⟩ := T.ser_root
  rw [hl, stepsL_append] at h
  have h2 := range_right h
  rw [stepsL_length] at h2
  rw [hl, List.length_append, List.length_singleton] at hn
  have e : l.length = n := by omega
  rw [e] at h2
  exact h2 0 _ rfl
theorem ser_ne (T : Tree) : stepsL T.ser ≠ [] := by
  intro e
  have h1 := congrArg List.length e
  rw [stepsL_length] at h1
  have := T.ser_pos
  simp at h1
  omega
theorem cell_below {w w' : World} {g o : Nat} {v : Value} (h : w.cell? ⟨g, o, none⟩ = some v) (hb : Below w.heap.size w w') : w'.cell? ⟨g, o, none⟩ = some v := (hb.cell (World.block_lt_of_cell? _ _ h)).trans h
theorem int_returned {a b : Int} (h : b = a) : Ending.returned (.int .i64 a) = Ending.returned (.int .i64 b) := by rw [h]
set_option maxHeartbeats 2000000 in
theorem nest_any : ∀ (T : Tree), T.Wf → ∀ (g o c : Nat) (w : World), w.rangeAt g o (stepsL T.ser) → T.ser.length ≤ c → T.ser.length ≤ 1000 →
    Calls Tryd.prog 29 #[.slice (some ⟨g, o, none⟩) T.ser.length c] w fun e w' => e = .returned (.int .i64 (nestT T)) ∧ Below w.heap.size w w'
  | .leaf x, hT, g, o, c, w, hr, hc, hl => by
    have HP := Lib.hid (parts_any g o c (.leaf x) w hT hr hc hl)
    clear hr
    go_enter Tryd.func29, Tryd.ntmps29
    go_wp2_with fail
    refine HP.out.mono ?_
    rintro e w1 ⟨l, r, rfl, hb, hl2, hr2⟩
    obtain rfl : r = .slice none 0 0 := by
      rcases hr2 with ⟨_, h⟩ | ⟨_, _, _, _, h, _⟩
      · exact h
      · simp [right] at h
    clear hl2 hr2
    go_wp2_with fail
    go_ret
    exact ⟨rfl, hb⟩
  | .one x b, hT, g, o, c, w, hr, hc, hl => by
    have HP := Lib.hid (parts_any g o c (.one x b) w hT hr hc hl)
    have hbn := nestT_bound b
    obtain ⟨m, hm⟩ : ∃ m, b.ser.length = m + 1 := ⟨b.ser.length - 1, by have := b.ser_pos; omega⟩
    have hlen : (Tree.one x b).ser.length = m + 1 + 1 := by simp [ser, hm]
    have hx : w.cell? ⟨g, o + (m + 1) * 6, none⟩ = some (.int .i64 x.op) := root_cell hr (m + 1) hlen
    have IH := Lib.hid (nest_any b hT.2.2)
    rw [hlen] at HP hc hl ⊢
    rw [hm] at hbn IH
    clear hr
    go_enter Tryd.func29, Tryd.ntmps29
    go_wp2_with fail
    refine HP.out.mono ?_
    rintro e w1 ⟨l, r, rfl, hb, hl2, hr2⟩
    obtain rfl : l = .slice none 0 0 := by
      rcases hl2 with ⟨_, h⟩ | ⟨_, _, _, _, h, _⟩
      · exact h
      · simp [left] at h
    obtain ⟨g2, o2, c2, rfl, _, hc2, hr2⟩ : ∃ g2 o2 c2, r = .slice (some ⟨g2, o2, none⟩) (m + 1) c2 ∧ 0 < m + 1 ∧ m + 1 ≤ c2 ∧ w1.rangeAt g2 o2 (stepsL b.ser) := by
      rcases hr2 with ⟨h, _⟩ | ⟨g2, o2, c2, h1, h2, h3, h4⟩
      · have := congrArg List.length h
        simp only [right, hm] at this
        cases this
      · simp only [right, hm] at h1 h2 h3 h4
        exact ⟨g2, o2, c2, h1, h2, h3, h4⟩
    have HR2 := Lib.hid hr2
    have hx1 := cell_below hx hb
    have hy1 := root_cell hr2 m hm
    have HB := Lib.hid hb
    clear hl2 hr2 hx hb
    go_wp2_with fail
    refine (IH.out g2 o2 c2 w1 HR2.out hc2 (by omega)).mono ?_
    rintro e w2 ⟨rfl, hb2⟩
    have hx2 := cell_below hx1 hb2
    have hy2 := cell_below hy1 hb2
    have HB2 := Lib.hid hb2
    clear hx1 hy1 hb2
    go_wp2_with fail
    refine (in_any _ _ _ _ _ _ _ hy2 (by omega)).mono ?_
    rintro e w3 ⟨rfl, rfl⟩
    cases hin : inB x.op b.root.op
    all_goals
      go_wp2_with fail
      go_ret
      refine ⟨?_, bel2 HB.out HB2.out⟩
      have hne : nestT (.one x b) = nestT b + (if inB x.op b.root.op then 1 else 0) := rfl
      rw [hne, hin]
      first | rfl | (rw [if_neg (by decide), Int.add_zero]; rfl)
  | .two x a b, hT, g, o, c, w, hr, hc, hl => by
    have HP := Lib.hid (parts_any g o c (.two x a b) w hT hr hc hl)
    have hbn := nestT_bound b
    have han := nestT_bound a
    obtain ⟨m, hm⟩ : ∃ m, b.ser.length = m + 1 := ⟨b.ser.length - 1, by have := b.ser_pos; omega⟩
    obtain ⟨k, hk⟩ : ∃ k, a.ser.length = k + 1 := ⟨a.ser.length - 1, by have := a.ser_pos; omega⟩
    have hlen : (Tree.two x a b).ser.length = k + 1 + (m + 1) + 1 := by simp [ser, hm, hk]; omega
    have hx : w.cell? ⟨g, o + (k + 1 + (m + 1)) * 6, none⟩ = some (.int .i64 x.op) := root_cell hr (k + 1 + (m + 1)) hlen
    have IH := Lib.hid (nest_any b hT.2.2.2)
    have IHA := Lib.hid (nest_any a hT.2.2.1)
    rw [hlen] at HP hc hl ⊢
    rw [hm] at hbn IH
    rw [hk] at han IHA
    clear hr
    go_enter Tryd.func29, Tryd.ntmps29
    go_wp2_with fail
    refine HP.out.mono ?_
    rintro e w1 ⟨l, r, rfl, hb, hl2, hr2⟩
    obtain ⟨g1, o1, c1, rfl, _, hc1, hl2⟩ : ∃ g2 o2 c2, l = .slice (some ⟨g2, o2, none⟩) (k + 1) c2 ∧ 0 < k + 1 ∧ k + 1 ≤ c2 ∧ w1.rangeAt g2 o2 (stepsL a.ser) := by
      rcases hl2 with ⟨h, _⟩ | ⟨g2, o2, c2, h1, h2, h3, h4⟩
      · have := congrArg List.length h
        simp only [left, hk] at this
        cases this
      · simp only [left, hk] at h1 h2 h3 h4
        exact ⟨g2, o2, c2, h1, h2, h3, h4⟩
    obtain ⟨g2, o2, c2, rfl, _, hc2, hr2⟩ : ∃ g2 o2 c2, r = .slice (some ⟨g2, o2, none⟩) (m + 1) c2 ∧ 0 < m + 1 ∧ m + 1 ≤ c2 ∧ w1.rangeAt g2 o2 (stepsL b.ser) := by
      rcases hr2 with ⟨h, _⟩ | ⟨g2, o2, c2, h1, h2, h3, h4⟩
      · have := congrArg List.length h
        simp only [right, hm] at this
        cases this
      · simp only [right, hm] at h1 h2 h3 h4
        exact ⟨g2, o2, c2, h1, h2, h3, h4⟩
    have HR2 := Lib.hid hr2
    have HL2 := Lib.hid hl2
    have hx1 := cell_below hx hb
    have hy1 := root_cell hr2 m hm
    have HB := Lib.hid hb
    clear hl2 hr2 hx hb
    go_wp2_with fail
    refine (IH.out g2 o2 c2 w1 HR2.out hc2 (by omega)).mono ?_
    rintro e w2 ⟨rfl, hb2⟩
    have hx2 := cell_below hx1 hb2
    have hy2 := cell_below hy1 hb2
    have HB2 := Lib.hid hb2
    clear hx1 hy1 hb2
    go_wp2_with fail
    refine (in_any _ _ _ _ _ _ _ hy2 (by omega)).mono ?_
    rintro e w3 ⟨rfl, rfl⟩
    cases hin : inB x.op b.root.op
    all_goals
      go_wp2_with fail
      refine (IHA.out g1 o1 c1 _ (rangeAt_below HL2.out HB2.out (range_lt HL2.out (ser_ne a))) hc1 (by omega)).mono ?_
      rintro e w4 ⟨rfl, hb4⟩
      go_wp2_with fail
      all_goals
        go_ret
        refine ⟨?_, bel2 (bel2 HB.out HB2.out) hb4⟩
        have hne : nestT (.two x a b) = max (nestT b + (if inB x.op b.root.op then 1 else 0)) (nestT a) := rfl
        rw [hne, hin]
        refine int_returned ?_
        simp only [Bool.false_eq_true, if_false, if_true]
        omega
/-! Nest and Parts. -/
def nestS (t : List StepD) (r : Int) : Prop := (soundB t = false ∧ r = -1) ∨ (soundB t = true ∧ ∃ T : Tree, T.Wf ∧ t = T.ser ∧ r = nestT T)
def NestOk (w : World) (t : List StepD) (e : Ending) (w' : World) : Prop := ∃ r : Int, e = .returned (.int .i64 r) ∧ nestS t r ∧ Below w.heap.size w w'
set_option maxHeartbeats 1000000 in
theorem Nest_any (a : Option Addr) (c : Nat) (t : List StepD) (w : World) (hL : Laid w) (hS : SlAt w a t) (hl : t.length ≤ 1000) (hc : t.length ≤ c) :
    Calls Tryd.prog 16 #[.slice a t.length c] w (NestOk w t) := by
  have HL := Lib.hid hL
  have HS := Lib.hid hS
  clear hL hS
  cases hb : soundB t
  · go_enter Tryd.func16, Tryd.ntmps16
    go_wp2_with fail
    refine (sound_any a c t w HL.out HS.out hl).mono ?_
    rintro e w1 ⟨rfl, hb1⟩
    rw [hb]
    go_wp2_with fail
    go_ret
    exact ⟨-1, rfl, .inl ⟨hb, rfl⟩, hb1⟩
  · obtain ⟨_, T, hT, rfl⟩ := (soundB_iff t).1 hb
    obtain ⟨g, o, rfl, hr⟩ : ∃ g o, a = some ⟨g, o, none⟩ ∧ w.rangeAt g o (stepsL T.ser) := by
      rcases HS.out with h | h
      · have := T.ser_pos; rw [h] at this; cases this
      · exact h
    have HR := Lib.hid hr
    clear hr
    have HN := Lib.hid (nest_any T hT)
    go_enter Tryd.func16, Tryd.ntmps16
    go_wp2_with fail
    refine (sound_any _ c T.ser w HL.out HS.out hl).mono ?_
    rintro e w1 ⟨rfl, hb1⟩
    rw [hb]
    go_wp2_with fail
    refine (HN.out g o c w1 (rangeAt_below HR.out hb1 (range_lt HR.out (ser_ne T))) hc hl).mono ?_
    rintro e w2 ⟨rfl, hb2⟩
    go_wp2_with fail
    go_ret
    exact ⟨nestT T, rfl, .inr ⟨hb, T, hT, rfl, rfl⟩, bel2 hb1 hb2⟩
end Go.Proofs.YteiialpecaebdaaDoor
