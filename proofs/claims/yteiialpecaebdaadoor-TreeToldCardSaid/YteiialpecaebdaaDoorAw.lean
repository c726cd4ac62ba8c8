/-
  The law's own: sym, awake.
-/
import Derived.Test.YteiialpecaebdaaDoorTm
set_option linter.unusedVariables false
set_option linter.unusedSimpArgs false
namespace Go.Proofs.YteiialpecaebdaaDoor
open Go.RowKit
open Go.Proofs
open Tree

theorem ser_uniq : ∀ (T T' : Tree) (p p' : List StepD), T.Wf → T'.Wf → p ++ T.ser = p' ++ T'.ser → T = T' ∧ p = p' := by
  intro T
  induction T with
  | leaf x =>
    intro T' p p' h h' e
    cases T' with
    | leaf y =>
      obtain ⟨a, b⟩ := List.append_inj' e rfl
      simp [ser] at b
      exact ⟨by rw [b], a⟩
    | one y a =>
      simp only [ser, ← List.append_assoc] at e
      obtain ⟨e1, e2⟩ := List.append_inj' e rfl
      simp at e2; subst e2
      have := h.2.symm.trans h'.2.1
      omega
    | two y a b =>
      simp only [ser, ← List.append_assoc] at e
      obtain ⟨e1, e2⟩ := List.append_inj' e rfl
      simp at e2; subst e2
      have := h.2.symm.trans h'.2.1
      omega
  | one x a ih =>
    intro T' p p' h h' e
    cases T' with
    | leaf y =>
      simp only [ser, ← List.append_assoc] at e
      obtain ⟨e1, e2⟩ := List.append_inj' e rfl
      simp at e2; subst e2
      have := h'.2.symm.trans h.2.1
      omega
    | one y a' =>
      simp only [ser, ← List.append_assoc] at e
      obtain ⟨e1, e2⟩ := List.append_inj' e rfl
      simp at e2; subst e2
      obtain ⟨r1, r2⟩ := ih a' p p' h.2.2 h'.2.2 e1
      exact ⟨by rw [r1], r2⟩
    | two y a' b' =>
      simp only [ser, ← List.append_assoc] at e
      obtain ⟨e1, e2⟩ := List.append_inj' e rfl
      simp at e2; subst e2
      have := h'.2.1.symm.trans h.2.1
      omega
  | two x a b iha ihb =>
    intro T' p p' h h' e
    cases T' with
    | leaf y =>
      simp only [ser, ← List.append_assoc] at e
      obtain ⟨e1, e2⟩ := List.append_inj' e rfl
      simp at e2; subst e2
      have := h'.2.symm.trans h.2.1
      omega
    | one y a' =>
      simp only [ser, ← List.append_assoc] at e
      obtain ⟨e1, e2⟩ := List.append_inj' e rfl
      simp at e2; subst e2
      have := h'.2.1.symm.trans h.2.1
      omega
    | two y a' b' =>
      simp only [ser, ← List.append_assoc] at e
      obtain ⟨e1, e2⟩ := List.append_inj' e rfl
      simp at e2; subst e2
      obtain ⟨r1, r2⟩ := ihb b' (p ++ a.ser) (p' ++ a'.ser) h.2.2.2 h'.2.2.2 e1
      obtain ⟨r3, r4⟩ := iha a' p p' h.2.2.1 h'.2.2.1 r2
      exact ⟨by rw [r1, r3], r4⟩
theorem ser_inj {T T' : Tree} (h : T.Wf) (h' : T'.Wf) (e : T.ser = T'.ser) : T = T' := (ser_uniq T T' [] [] h h' e).1
theorem partsS_ser {T : Tree} (h : T.Wf) (hl : T.ser.length ≤ 255) {l r : List StepD} (hp : partsS T.ser l r) : l = T.left ∧ r = T.right := by
  have hb : soundB T.ser = true := (soundB_iff _).2 ⟨hl, T, h, rfl⟩
  rcases hp with ⟨h0, _⟩ | ⟨_, T', h1, h2, h3, h4⟩
  · rw [hb] at h0; cases h0
  · obtain rfl := ser_inj h h1 h2
    exact ⟨h3, h4⟩
theorem nestS_ser {T : Tree} (h : T.Wf) (hl : T.ser.length ≤ 255) {r : Int} (hp : nestS T.ser r) : r = nestT T := by
  have hb : soundB T.ser = true := (soundB_iff _).2 ⟨hl, T, h, rfl⟩
  rcases hp with ⟨h0, _⟩ | ⟨_, T', h1, h2, h3⟩
  · rw [hb] at h0; cases h0
  · obtain rfl := ser_inj h h1 h2
    exact h3
set_option maxHeartbeats 1000000 in
theorem lawSym_any (i : Int) (w : World) : Calls Tryd.prog 19 #[.int .i64 i] w fun e w' => e = .returned (.agg #[.int .i64 2, .int .i64 (-1), .int .i64 i, .int .i64 1, .int .i64 0, .string ⟨#[]⟩]) ∧ Below w.heap.size w w' := by
  go_enter Tryd.func19, Tryd.ntmps19
  go_wp2_with fail
  exact bodyPost_ret (v := .agg #[.int .i64 2, .int .i64 (-1), .int .i64 i, .int .i64 1, .int .i64 0, .string ⟨#[]⟩]) (by simp [results, Tryd.results19, go_sem]) rfl ⟨rfl, belA w _⟩
def sy (i : Int) : StepD := ⟨2, -1, i, 1, 0, ⟨#[]⟩⟩
def op2 (k : Int) : StepD := ⟨k, -1, 0, 0, 0, ⟨#[]⟩⟩
def awT : Tree := .two (op2 4) (.leaf (sy 0)) (.two (op2 3) (.leaf (sy 1)) (.leaf (sy 2)))
theorem sy_ok (i : Int) (h : 0 ≤ i) (h2 : i < 48) : mayB (sy i) = true ∧ takesI (sy i).op = 0 := ⟨(may_made (-1) i 1 h h2 (.inl rfl) (by omega) (by omega)).1, rfl⟩
theorem awT_ok : awT.Wf := ⟨(may_p 4 (by omega)).1, rfl, sy_ok 0 (by omega) (by omega), (may_p 3 (by omega)).1, rfl, sy_ok 1 (by omega) (by omega), sy_ok 2 (by omega) (by omega)⟩
theorem awT_nest : nestT awT = 1 := rfl
theorem aw_sl (w : World) : SlAt (w.alloc (.cells (stepsL awT.ser).toArray 35)) (some ⟨w.heap.size, 0, none⟩) awT.ser := by
  refine .inr ⟨_, _, rfl, fun j v hj => ?_⟩
  rw [Nat.zero_add]
  exact cellNew w _ _ j v (by simpa using hj)
set_option maxHeartbeats 1000000 in
theorem awake_any (w : World) (hL : Laid w) : Calls Tryd.prog 9 #[] w fun e w' => e = .returned (.bool true) ∧ Below w.heap.size w w' := by
  have HL := Lib.hid hL
  clear hL
  have hsb := (soundB_iff _).2 ⟨by decide, awT, awT_ok, rfl⟩
  go_enter Tryd.func9, Tryd.ntmps9
  go_wp2_with fail
  refine (lawSym_any 0 w).mono ?_
  rintro e w1 ⟨rfl, hb1⟩
  go_wp2_with fail
  refine (lawSym_any 1 w1).mono ?_
  rintro e w2 ⟨rfl, hb2⟩
  go_wp2_with fail
  refine (lawSym_any 2 w2).mono ?_
  rintro e w3 ⟨rfl, hb3⟩
  have HB3 : Hid (Below w.heap.size w w3) := bel2 (bel2 hb1 hb2) hb3
  clear hb1 hb2 hb3
  go_wp2_with fail
  have HLa : Hid (Laid (w3.alloc (.cells (stepsL awT.ser).toArray 35))) := (HL.out.below HB3.out).below (belA w3 _)
  have HS := Lib.hid (aw_sl w3)
  have HBa : Hid (Below w.heap.size w (w3.alloc (.cells (stepsL awT.ser).toArray 35))) := bel2 HB3.out (belA w3 _)
  refine (Parts_any (some ⟨w3.heap.size, 0, none⟩) 5 awT.ser _ HLa.out HS.out (by decide) (by decide)).mono ?_
  rintro e w4 ⟨vl, vr, l, r, rfl, hp, hl, hr, hb4⟩
  obtain ⟨rfl, rfl⟩ := partsS_ser awT_ok (by decide) hp
  obtain ⟨al, cl, rfl⟩ := slice_of hl
  obtain ⟨ar, cr, rfl⟩ := slice_of hr
  have el : awT.left.length = 1 := rfl
  have er : awT.right.length = 3 := rfl
  rw [el, er]
  clear hp hl hr
  go_wp2_with fail
  refine (sound_any (some ⟨w3.heap.size, 0, none⟩) 5 awT.ser _ (HLa.out.below hb4) (HS.out.below hb4) (by decide)).mono ?_
  rintro e w5 ⟨rfl, hb5⟩
  rw [hsb]
  go_wp2_with fail
  refine (Nest_any (some ⟨w3.heap.size, 0, none⟩) 5 awT.ser _ ((HLa.out.below hb4).below hb5) ((HS.out.below hb4).below hb5) (by decide) (by decide)).mono ?_
  rintro e w6 ⟨r, rfl, hn, hb6⟩
  obtain rfl := nestS_ser awT_ok (by decide) hn
  rw [awT_nest]
  go_wp2_with fail
  go_ret
  exact ⟨rfl, bel2 (bel2 (bel2 HBa.out hb4) hb5) hb6⟩
end Go.Proofs.YteiialpecaebdaaDoor
