/-
  The reference: nest, Nest.
-/
import Derived.Test.YteiialpecaebdaaDoorRn
set_option linter.unusedVariables false
set_option linter.unusedSimpArgs false
namespace Go.Proofs.YteiialpecaebdaaDoor
open Go.RowKit
open Go.Proofs
open Tree

theorem Texts.left {a b : List StepD} (h : Texts (a ++ b)) : Texts a := fun x hx => h x (List.mem_append_left _ hx)
theorem Texts.right {a b : List StepD} (h : Texts (a ++ b)) : Texts b := fun x hx => h x (List.mem_append_right _ hx)
set_option maxHeartbeats 2000000 in
theorem refNest_any (T : Tree) : T.Wf → ∀ (g o c : Nat) (w : World), Texts T.ser → w.rangeAt g o (stepsL T.ser) → T.ser.length ≤ c → T.ser.length ≤ 255 →
    Calls Tryd.prog 39 #[.slice (some ⟨g, o, none⟩) T.ser.length c] w fun e w' => e = .returned (.int .i64 (nestT T)) ∧ Below w.heap.size w w' := by
  induction T with
  | leaf x =>
    intro hT g o c w hX hr hc hl
    have hx : w.cell? ⟨g, o, none⟩ = some (.int .i64 x.op) := root_cell (T := .leaf x) hr 0 rfl
    have hk := Lib.hid hT.2
    have hlen : (Tree.leaf x).ser.length = 1 := rfl
    rw [hlen]
    clear hr hlen
    go_enter Tryd.func39, Tryd.ntmps39
    go_wp2_with fail
    refine (refTakes_any _ _).mono ?_
    rintro e w1 ⟨rfl, hw⟩
    subst w1
    rw [hk.out]
    go_wp2_with fail
    go_ret
    exact ⟨rfl, Below.refl _ _⟩
  | one x b ihb =>
    intro hT g o c w hX hr hc hl
    have HP := Lib.hid (refParts_any g o c (.one x b) w hT hX hr hc hl)
    have hbn := nestT_bound b
    obtain ⟨m, hm⟩ : ∃ m, b.ser.length = m + 1 := ⟨b.ser.length - 1, by have := b.ser_pos; omega⟩
    have hlen : (Tree.one x b).ser.length = m + 1 + 1 := by simp [ser, hm]
    have hx : w.cell? ⟨g, o + (m + 1) * 6, none⟩ = some (.int .i64 x.op) := root_cell hr (m + 1) hlen
    have IH : Hid (∀ (g o c : Nat) (w : World), w.rangeAt g o (stepsL b.ser) → m + 1 ≤ c → Calls Tryd.prog 39 #[.slice (some ⟨g, o, none⟩) (m + 1) c] w fun e w' => e = .returned (.int .i64 (nestT b)) ∧ Below w.heap.size w w') := by
      have hX2 : Texts b.ser := Texts.left (a := b.ser) (b := [x]) hX
      have h2 := ihb hT.2.2
      rw [hm] at h2
      exact fun g o c w h1 hc2 => h2 g o c w hX2 h1 hc2 (by rw [hlen] at hl; omega)
    have hk := Lib.hid hT.2.1
    have hne : nestT (.one x b) = nestT b + (if inB x.op b.root.op then 1 else 0) := rfl
    have HNE := Lib.hid hne
    rw [hlen] at HP hc hl ⊢
    rw [hm] at hbn
    clear hr hlen ihb hX hne
    go_enter Tryd.func39, Tryd.ntmps39
    go_wp2_with fail
    refine (refTakes_any _ _).mono ?_
    rintro e w1 ⟨rfl, hw⟩
    subst w1
    rw [hk.out]
    go_wp2_with fail
    refine HP.out.mono ?_
    rintro e w1 ⟨l, r, rfl, hb, hl2, hr2⟩
    obtain rfl : l = .slice none 0 0 := by
      rcases hl2 with ⟨_, h⟩ | ⟨_, _, _, _, h, _⟩
      · exact h
      · simp [left] at h
    obtain ⟨g2, o2, c2, rfl, _, hc2, hr2⟩ : ∃ g2 o2 c2, r = .slice (some ⟨g2, o2, none⟩) (m + 1) c2 ∧ 0 < m + 1 ∧ m + 1 ≤ c2 ∧ w1.rangeAt g2 o2 (stepsL b.ser) := by
      rcases hr2 with ⟨h, _⟩ | ⟨g2, o2, c2, h1, h2, h3, h4⟩
      · have := congrArg List.length h
        simp only [right, hm] at this
        cases this
      · simp only [right, hm] at h1 h2 h3 h4
        exact ⟨g2, o2, c2, h1, h2, h3, h4⟩
    obtain ⟨W1, hW1⟩ : ∃ W1, W1 = w1.alloc (.cells #[.slice none 0 0, .slice (some ⟨g2, o2, none⟩) (m + 1) c2] 55) := ⟨_, rfl⟩
    have HR2 : Hid (W1.rangeAt g2 o2 (stepsL b.ser)) := by rw [hW1]; exact rangeAt_below hr2 (belA w1 _) (range_lt hr2 (ser_ne b))
    have hx1 : W1.cell? ⟨g, o + (m + 1) * 6, none⟩ = some (.int .i64 x.op) := by rw [hW1]; exact cellAlloc _ (cell_below hx hb)
    have hy1 : W1.cell? ⟨g2, o2 + m * 6, none⟩ = some (.int .i64 b.root.op) := root_cell HR2.out m hm
    have hp0 : W1.cell? ⟨w1.heap.size, 0, none⟩ = some (.slice none 0 0) := by rw [hW1]; exact cellNew w1 _ _ 0 _ rfl
    have hp1 : W1.cell? ⟨w1.heap.size, 1, none⟩ = some (.slice (some ⟨g2, o2, none⟩) (m + 1) c2) := by rw [hW1]; exact cellNew w1 _ _ 1 _ rfl
    have HB : Hid (Below w.heap.size w W1) := by rw [hW1]; exact bel2 hb (belA w1 _)
    clear hl2 hr2 hx hb
    go_wp2_with fail
    rw [← hW1]
    refine (IH.out g2 o2 c2 W1 HR2.out hc2).mono ?_
    rintro e w2 ⟨rfl, hb2⟩
    have hx2 := cell_below hx1 hb2
    have hy2 := cell_below hy1 hb2
    have hq0 := cell_below hp0 hb2
    have hq1 := cell_below hp1 hb2
    have HB2 := Lib.hid (bel2 HB.out hb2)
    clear hx1 hy1 hb2 hp0 hp1 hW1
    go_wp2_with fail
    have HIN := Lib.hid (fun n => refIn_any x.op b.root.op g2 o2 c2 m (w2.drewN n) hy2 (by omega))
    cases hin : inB x.op b.root.op
    all_goals
      rw [hin] at HIN HNE
      go_quiet ((go_at_call 47; exact Calls.quiet_of_same (HIN.out _)))
      have hr0 : (w2.drewN nq).cell? ⟨w1.heap.size, 0, none⟩ = some (.slice none 0 0) := hq0
      have hr1 : (w2.drewN nq).cell? ⟨w1.heap.size, 1, none⟩ = some (.slice (some ⟨g2, o2, none⟩) (m + 1) c2) := hq1
      have HB3 := Lib.hid (belDrew (n := nq) HB2.out)
      clear hq0 hq1 hy2 hx2
      go_wp2_with fail
      go_ret
      refine ⟨?_, HB3.out⟩
      rw [HNE.out]
      first | rfl | (rw [if_neg (by decide), Int.add_zero]; rfl)
  | two x a b iha ihb =>
    intro hT g o c w hX hr hc hl
    have HP := Lib.hid (refParts_any g o c (.two x a b) w hT hX hr hc hl)
    have hbn := nestT_bound b
    have han := nestT_bound a
    obtain ⟨m, hm⟩ : ∃ m, b.ser.length = m + 1 := ⟨b.ser.length - 1, by have := b.ser_pos; omega⟩
    obtain ⟨k, hk1⟩ : ∃ k, a.ser.length = k + 1 := ⟨a.ser.length - 1, by have := a.ser_pos; omega⟩
    have hlen : (Tree.two x a b).ser.length = k + 1 + (m + 1) + 1 := by simp [ser, hm, hk1]; omega
    have hx : w.cell? ⟨g, o + (k + 1 + (m + 1)) * 6, none⟩ = some (.int .i64 x.op) := root_cell hr _ hlen
    have IH : Hid (∀ (g o c : Nat) (w : World), w.rangeAt g o (stepsL b.ser) → m + 1 ≤ c → Calls Tryd.prog 39 #[.slice (some ⟨g, o, none⟩) (m + 1) c] w fun e w' => e = .returned (.int .i64 (nestT b)) ∧ Below w.heap.size w w') := by
      have hX2 : Texts b.ser := Texts.right (a := a.ser) (b := b.ser) (Texts.left (a := a.ser ++ b.ser) (b := [x]) hX)
      have h2 := ihb hT.2.2.2
      rw [hm] at h2
      exact fun g o c w h1 hc2 => h2 g o c w hX2 h1 hc2 (by rw [hlen] at hl; omega)
    have IHA : Hid (∀ (g o c : Nat) (w : World), w.rangeAt g o (stepsL a.ser) → k + 1 ≤ c → Calls Tryd.prog 39 #[.slice (some ⟨g, o, none⟩) (k + 1) c] w fun e w' => e = .returned (.int .i64 (nestT a)) ∧ Below w.heap.size w w') := by
      have hX2 : Texts a.ser := Texts.left (a := a.ser) (b := b.ser) (Texts.left (a := a.ser ++ b.ser) (b := [x]) hX)
      have h2 := iha hT.2.2.1
      rw [hk1] at h2
      exact fun g o c w h1 hc2 => h2 g o c w hX2 h1 hc2 (by rw [hlen] at hl; omega)
    have hk := Lib.hid hT.2.1
    have hne : nestT (.two x a b) = max (nestT b + (if inB x.op b.root.op then 1 else 0)) (nestT a) := rfl
    have HNE := Lib.hid hne
    rw [hlen] at HP hc hl ⊢
    rw [hm] at hbn
    rw [hk1] at han
    clear hr hlen iha ihb hX hne
    go_enter Tryd.func39, Tryd.ntmps39
    go_wp2_with fail
    refine (refTakes_any _ _).mono ?_
    rintro e w1 ⟨rfl, hw⟩
    subst w1
    rw [hk.out]
    go_wp2_with fail
    refine HP.out.mono ?_
    rintro e w1 ⟨l, r, rfl, hb, hl2, hr2⟩
    obtain ⟨g1, o1, c1, rfl, _, hc1, hl2⟩ : ∃ g2 o2 c2, l = .slice (some ⟨g2, o2, none⟩) (k + 1) c2 ∧ 0 < k + 1 ∧ k + 1 ≤ c2 ∧ w1.rangeAt g2 o2 (stepsL a.ser) := by
      rcases hl2 with ⟨h, _⟩ | ⟨g2, o2, c2, h1, h2, h3, h4⟩
      · have := congrArg List.length h
        simp only [left, hk1] at this
        cases this
      · simp only [left, hk1] at h1 h2 h3 h4
        exact ⟨g2, o2, c2, h1, h2, h3, h4⟩
    obtain ⟨g2, o2, c2, rfl, _, hc2, hr2⟩ : ∃ g2 o2 c2, r = .slice (some ⟨g2, o2, none⟩) (m + 1) c2 ∧ 0 < m + 1 ∧ m + 1 ≤ c2 ∧ w1.rangeAt g2 o2 (stepsL b.ser) := by
      rcases hr2 with ⟨h, _⟩ | ⟨g2, o2, c2, h1, h2, h3, h4⟩
      · have := congrArg List.length h
        simp only [right, hm] at this
        cases this
      · simp only [right, hm] at h1 h2 h3 h4
        exact ⟨g2, o2, c2, h1, h2, h3, h4⟩
    obtain ⟨W1, hW1⟩ : ∃ W1, W1 = w1.alloc (.cells #[.slice (some ⟨g1, o1, none⟩) (k + 1) c1, .slice (some ⟨g2, o2, none⟩) (m + 1) c2] 55) := ⟨_, rfl⟩
    have HR2 : Hid (W1.rangeAt g2 o2 (stepsL b.ser)) := by rw [hW1]; exact rangeAt_below hr2 (belA w1 _) (range_lt hr2 (ser_ne b))
    have HL2 : Hid (W1.rangeAt g1 o1 (stepsL a.ser)) := by rw [hW1]; exact rangeAt_below hl2 (belA w1 _) (range_lt hl2 (ser_ne a))
    have hx1 : W1.cell? ⟨g, o + (k + 1 + (m + 1)) * 6, none⟩ = some (.int .i64 x.op) := by rw [hW1]; exact cellAlloc _ (cell_below hx hb)
    have hy1 : W1.cell? ⟨g2, o2 + m * 6, none⟩ = some (.int .i64 b.root.op) := root_cell HR2.out m hm
    have hp0 : W1.cell? ⟨w1.heap.size, 0, none⟩ = some (.slice (some ⟨g1, o1, none⟩) (k + 1) c1) := by rw [hW1]; exact cellNew w1 _ _ 0 _ rfl
    have hp1 : W1.cell? ⟨w1.heap.size, 1, none⟩ = some (.slice (some ⟨g2, o2, none⟩) (m + 1) c2) := by rw [hW1]; exact cellNew w1 _ _ 1 _ rfl
    have HB : Hid (Below w.heap.size w W1) := by rw [hW1]; exact bel2 hb (belA w1 _)
    clear hl2 hr2 hx hb
    go_wp2_with fail
    rw [← hW1]
    refine (IH.out g2 o2 c2 W1 HR2.out hc2).mono ?_
    rintro e w2 ⟨rfl, hb2⟩
    have hx2 := cell_below hx1 hb2
    have hy2 := cell_below hy1 hb2
    have hq0 := cell_below hp0 hb2
    have hq1 := cell_below hp1 hb2
    have HB2 := Lib.hid (bel2 HB.out hb2)
    have HLL : Hid (∀ n, (w2.drewN n).rangeAt g1 o1 (stepsL a.ser)) := fun n => rangeAt_below HL2.out (belDrew hb2) (range_lt HL2.out (ser_ne a))
    clear hx1 hy1 hb2 hp0 hp1 hW1
    go_wp2_with fail
    have HIN := Lib.hid (fun n => refIn_any x.op b.root.op g2 o2 c2 m (w2.drewN n) hy2 (by omega))
    cases hin : inB x.op b.root.op
    all_goals
      rw [hin] at HIN HNE
      go_quiet ((go_at_call 47; exact Calls.quiet_of_same (HIN.out _)))
      have hr0 : (w2.drewN nq).cell? ⟨w1.heap.size, 0, none⟩ = some (.slice (some ⟨g1, o1, none⟩) (k + 1) c1) := hq0
      have hr1 : (w2.drewN nq).cell? ⟨w1.heap.size, 1, none⟩ = some (.slice (some ⟨g2, o2, none⟩) (m + 1) c2) := hq1
      have HB3 := Lib.hid (belDrew (n := nq) HB2.out)
      clear hq0 hq1 hy2 hx2
      go_wp2_with fail
      refine (IHA.out g1 o1 c1 _ (HLL.out _) hc1).mono ?_
      rintro e w4 ⟨rfl, hb4⟩
      go_wp2_with fail
      all_goals
        go_ret
        refine ⟨?_, bel2 HB3.out hb4⟩
        rw [HNE.out]
        refine int_returned ?_
        simp only [Bool.false_eq_true, if_false, if_true]
        omega
set_option maxHeartbeats 1000000 in
theorem RNest_any (a : Option Addr) (c : Nat) (t : List StepD) (w : World) (hX : Texts t) (hS : SlAt w a t) (hl : t.length ≤ 1000) (hc : t.length ≤ c) :
    Calls Tryd.prog 25 #[.slice a t.length c] w (NestOk w t) := by
  have HS := Lib.hid hS
  have HSND := Lib.hid (refSound_any a c t w hS hX hl)
  clear hS
  cases hb : soundB t
  · go_enter Tryd.func25, Tryd.ntmps25
    go_wp2_with fail
    refine HSND.out.mono ?_
    rintro e w1 ⟨rfl, hb1⟩
    rw [hb]
    go_wp2_with fail
    go_ret
    exact ⟨-1, rfl, .inl ⟨hb, rfl⟩, hb1⟩
  · obtain ⟨h255, T, hT, rfl⟩ := (soundB_iff t).1 hb
    obtain ⟨g, o, rfl, hr⟩ : ∃ g o, a = some ⟨g, o, none⟩ ∧ w.rangeAt g o (stepsL T.ser) := by
      rcases HS.out with h | h
      · have := T.ser_pos; rw [h] at this; cases this
      · exact h
    have HR := Lib.hid hr
    clear hr
    have HN := Lib.hid (refNest_any T hT)
    go_enter Tryd.func25, Tryd.ntmps25
    go_wp2_with fail
    refine HSND.out.mono ?_
    rintro e w1 ⟨rfl, hb1⟩
    rw [hb]
    go_wp2_with fail
    refine (HN.out g o c w1 hX (rangeAt_below HR.out hb1 (range_lt HR.out (ser_ne T))) hc h255).mono ?_
    rintro e w2 ⟨rfl, hb2⟩
    go_wp2_with fail
    go_ret
    exact ⟨nestT T, rfl, .inr ⟨hb, T, hT, rfl, rfl⟩, bel2 hb1 hb2⟩
theorem nestS_fun {t : List StepD} {r r' : Int} (h : nestS t r) (h' : nestS t r') : r = r' := by
  rcases h with ⟨a, rfl⟩ | ⟨a, T, b, c, rfl⟩
  · rcases h' with ⟨_, rfl⟩ | ⟨a', _⟩
    · rfl
    · rw [a] at a'; cases a'
  · rcases h' with ⟨a', _⟩ | ⟨_, T', b', c', rfl⟩
    · rw [a] at a'; cases a'
    · rw [ser_inj b b' (c.symm.trans c')]
/-- What the reference's Parts answers, of any steps. -/
theorem RParts_all (a : Option Addr) (c : Nat) (t l r : List StepD) (w : World) (hX : Texts t) (hS : SlAt w a t) (hl : t.length ≤ 1000) (hc : t.length ≤ c) (hp : partsS t l r) :
    Calls Tryd.prog 22 #[.slice a t.length c] w (RPartsOk w l r) := by
  rcases hp with ⟨h0, rfl, rfl⟩ | ⟨h1, T, hT, rfl, rfl, rfl⟩
  · exact refParts_no a c t w hS hX hl h0
  · obtain ⟨h255, _⟩ := (soundB_iff _).1 h1
    obtain ⟨g, o, rfl, hr⟩ : ∃ g o, a = some ⟨g, o, none⟩ ∧ w.rangeAt g o (stepsL T.ser) := by
      rcases hS with h | h
      · have := T.ser_pos; rw [h] at this; cases this
      · exact h
    exact refParts_any g o c T w hT hX hr hc h255
theorem own_sl {w : World} {B : Nat} {v : Value} {t : List StepD} (h : Own w B v t) : ∃ a c, v = .slice a t.length c ∧ SlAt w a t ∧ t.length ≤ c := by
  rcases h.2 with ⟨rfl, h0⟩ | ⟨g, cap, cur, rfl, hb, hh, hn, hm, hs, hx⟩
  · have : t = [] := List.eq_nil_of_length_eq_zero h0
    subst this
    exact ⟨none, 0, rfl, .inl rfl, Nat.le_refl _⟩
  · refine ⟨_, cap, rfl, .inr ⟨g, 0, rfl, fun j v hj => ?_⟩, hn⟩
    have := h.cells (g := g) rfl j v hj
    rw [addPlain] at this
    rw [Nat.zero_add]; exact this
theorem part_sl {w : World} {v : Value} {t : List StepD} (h : PartOf w v t) : ∃ a c, v = .slice a t.length c ∧ SlAt w a t ∧ t.length ≤ c := by
  rcases h with ⟨rfl, rfl⟩ | ⟨g, o, c, rfl, h1, h2, h3⟩
  · exact ⟨none, 0, rfl, .inl rfl, Nat.le_refl _⟩
  · exact ⟨_, c, rfl, .inr ⟨g, o, rfl, h3⟩, h2⟩
theorem parts_len {t l r : List StepD} (h : partsS t l r) : l.length ≤ t.length ∧ r.length ≤ t.length := by
  rcases h with ⟨_, rfl, rfl⟩ | ⟨_, T, _, rfl, rfl, rfl⟩
  · simp
  · have := left_len T; omega
set_option maxHeartbeats 1000000 in
theorem tells_any (a : Option Addr) (c : Nat) (t : List StepD) (w : World) (hL : Laid w) (hX : Texts t) (hS : SlAt w a t) (hl : t.length ≤ 1000) (hc : t.length ≤ c) :
    Calls Tryd.prog 12 #[.slice a t.length c] w fun e w' => e = .returned (.bool true) ∧ Below w.heap.size w w' := by
  have HL := Lib.hid hL
  have HS := Lib.hid hS
  have HX := Lib.hid hX
  clear hL hS hX
  go_enter Tryd.func12, Tryd.ntmps12
  go_wp2_with fail
  refine (Parts_any a c t w HL.out HS.out hl hc).mono ?_
  rintro e w1 ⟨vl, vr, l, r, rfl, hp, hvl, hvr, hb1⟩
  have hlen := parts_len hp
  obtain ⟨al, cl, rfl, hSl, _⟩ := own_sl hvl
  obtain ⟨ar, cr, rfl, hSr, _⟩ := own_sl hvr
  have HSL := Lib.hid hSl
  have HSR := Lib.hid hSr
  have HP := Lib.hid hp
  clear hvl hvr hSl hSr hp
  go_wp2_with fail
  refine (RParts_all a c t l r w1 HX.out (HS.out.below hb1) hl hc HP.out).mono ?_
  rintro e w2 ⟨ql, qr, rfl, hb2, hql, hqr⟩
  obtain ⟨bl, dl, rfl, hTl, _⟩ := part_sl hql
  obtain ⟨br, dr, rfl, hTr, _⟩ := part_sl hqr
  obtain ⟨W, hW⟩ : ∃ W, W = w2.alloc (.cells #[.slice bl l.length dl, .slice br r.length dr] 55) := ⟨_, rfl⟩
  have hbW : Below w2.heap.size w2 W := by rw [hW]; exact belA w2 _
  have HB : Hid (Below w.heap.size w W) := bel2 (bel2 hb1 hb2) hbW
  have HSL2 := Lib.hid ((HSL.out.below hb2).below hbW)
  have HSR2 := Lib.hid ((HSR.out.below hb2).below hbW)
  have HTL2 := Lib.hid (hTl.below hbW)
  have HTR2 := Lib.hid (hTr.below hbW)
  have hp0 : W.cell? ⟨w2.heap.size, 0, none⟩ = some (.slice bl l.length dl) := by rw [hW]; exact cellNew w2 _ _ 0 _ rfl
  have hp1 : W.cell? ⟨w2.heap.size, 1, none⟩ = some (.slice br r.length dr) := by rw [hW]; exact cellNew w2 _ _ 1 _ rfl
  clear hql hqr hTl hTr hb2 hb1 hbW
  go_wp2_with fail
  rw [← hW]
  refine (same_any al bl cl dl l W HSL2.out HTL2.out (by omega)).mono ?_
  rintro e w3 ⟨rfl, hb3⟩
  have hq1 := cell_below hp1 hb3
  clear hp0 hp1 hW
  go_wp2_with fail
  refine (same_any ar br cr dr r w3 (HSR2.out.below hb3) (HTR2.out.below hb3) (by omega)).mono ?_
  rintro e w4 ⟨rfl, hb4⟩
  have HB4 : Hid (Below w.heap.size w w4) := bel2 (bel2 HB.out hb3) hb4
  clear hq1 hb3 hb4
  go_wp2_with fail
  refine (sound_any a c t w4 (HL.out.below HB4.out) (HS.out.below HB4.out) hl).mono ?_
  rintro e w5 ⟨rfl, hb5⟩
  go_wp2_with fail
  refine (refSound_any a c t w5 ((HS.out.below HB4.out).below hb5) HX.out hl).mono ?_
  rintro e w6 ⟨rfl, hb6⟩
  have HB6 : Hid (Below w.heap.size w w6) := bel2 (bel2 HB4.out hb5) hb6
  clear hb5 hb6
  go_wp2_with fail
  refine (Nest_any a c t w6 (HL.out.below HB6.out) (HS.out.below HB6.out) hl hc).mono ?_
  rintro e w7 ⟨r1, rfl, hr1, hb7⟩
  go_wp2_with fail
  refine (RNest_any a c t w7 HX.out ((HS.out.below HB6.out).below hb7) hl hc).mono ?_
  rintro e w8 ⟨r2, rfl, hr2, hb8⟩
  obtain rfl := nestS_fun hr1 hr2
  go_wp2_with fail
  go_ret
  exact ⟨rfl, bel2 (bel2 HB6.out hb7) hb8⟩
end Go.Proofs.YteiialpecaebdaaDoor
