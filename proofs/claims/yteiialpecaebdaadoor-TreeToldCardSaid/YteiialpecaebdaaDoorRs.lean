/-
  The reference: Sound, Cut, Same.
-/
import Derived.Test.YteiialpecaebdaaDoorRz
import Derived.Test.YteiialpecaebdaaDoorPp
set_option linter.unusedVariables false
set_option linter.unusedSimpArgs false
namespace Go.Proofs.YteiialpecaebdaaDoor
open Go.RowKit
open Go.Proofs
open Tree

def Texts (t : List StepD) : Prop := ∀ x ∈ t, x.text.size ≤ maxLen
set_option maxHeartbeats 1000000 in
theorem refSound_any (a : Option Addr) (c : Nat) (t : List StepD) (w : World) (hS : SlAt w a t) (hX : Texts t) (hl : t.length ≤ 1000) :
    Calls Tryd.prog 24 #[.slice a t.length c] w (SoundOk w t) := by
  have HS := Lib.hid hS
  have HX := Lib.hid hX
  clear hS hX
  by_cases h255 : t.length ≤ 255
  · go_enter Tryd.func24, Tryd.ntmps24
    go_wp2_with fail
    go_loopw [3, 4] (fun m i wr => ∃ k n : Nat, k ≤ t.length ∧ i = .int .i64 k ∧ m = .int .i64 n ∧ Below w.heap.size w wr ∧ n ≤ k ∧ soundN t 0 = soundN (t.drop k) n) (fun _ i _ => t.length - (intOf i).toNat)
    case atStart => exact ⟨0, 0, by omega, rfl, rfl, Below.refl _ _, by omega, rfl⟩
    case round =>
      obtain ⟨k, n, hk, rfl, rfl, hb, hn, hs⟩ := hrel
      by_cases hlt : k < t.length
      · obtain ⟨g, o, rfl, hr⟩ : ∃ g o, a = some ⟨g, o, none⟩ ∧ wr.rangeAt g o (stepsL t) := by
          rcases HS.out.below hb with h | h
          · subst h; simp at hlt
          · exact h
        have hr := step_range hr k hlt
        have hop : wr.cell? ⟨g, o + k * 6, none⟩ = some (.int .i64 t[k].op) := hr 0 _ rfl
        unfold stepL at hr
        have HR := Lib.hid hr; have HB := Lib.hid hb; have HN := Lib.hid hs
        clear hr hb hs
        have hS2 := Lib.hid (soundN_step hlt n)
        have hk2 := takesI_cases t[k].op
        have htx := HX.out t[k] (List.getElem_mem hlt)
        go_wp2_with (refine wpList_load_mid rfl 35 _ rfl g _ rfl _ _ HR.out Tryd.underlying35 rfl size_S ?_)
        refine (refMay_any _ _ _ _ _ _ _ htx).mono ?_
        rintro e w1 ⟨rfl, hb1⟩
        have hop1 := cell_below hop hb1
        have HB1 : Hid (Below w.heap.size w w1) := bel2 HB.out hb1
        clear hop hb1
        cases hq : mayB t[k]
        · go_wp2_with fail
          refine (refTakes_any _ _).mono ?_
          rintro e w2 ⟨rfl, rfl⟩
          go_wp2_with fail
          go_ret
          refine ⟨?_, HB1.out⟩
          have : soundB t = false := by
            unfold soundB
            rw [HN.out, hS2.out, hq]
            rfl
          rw [this]; rfl
        · go_wp2_with fail
          refine (refTakes_any _ _).mono ?_
          rintro e w2 ⟨rfl, rfl⟩
          by_cases hle : takesI t[k].op ≤ n
          · have hd : decide ((n : Int) < takesI t[k].op) = false := by simp; omega
            go_wp2_with fail
            go_roundw
            case rel =>
              refine ⟨k + 1, n + 1 - (takesI t[k].op).toNat, by omega, by go_num, ?_, HB1.out, by omega, ?_⟩
              · congr 1
                first | omega | (unfold wrap64; omega)
              · rw [HN.out, hS2.out, hq, decide_eq_true hle]; rfl
            case measure => simp [intOf]; omega
          · have hd : decide ((n : Int) < takesI t[k].op) = true := by simp; omega
            go_wp2_with fail
            go_ret
            refine ⟨?_, HB1.out⟩
            have : soundB t = false := by
              unfold soundB
              rw [HN.out, hS2.out, decide_eq_false (p := takesI t[k].op ≤ (n : Int)) (by omega), Bool.and_false]
              rfl
            rw [this]; rfl
      · obtain rfl : k = t.length := by omega
        rw [List.drop_length] at hs
        have HB := Lib.hid hb; have HN := Lib.hid hs
        clear hb hs
        go_wp2_with fail
        go_ret
        refine ⟨?_, HB.out⟩
        refine bool_returned ?_
        unfold soundB
        rw [HN.out, decide_eq_true h255, Bool.and_true]
        show ((n : Int) == 1) = (some n == some 1)
        by_cases h1 : n = 1
        · subst h1; rfl
        · have e1 : (some n == some 1) = false := by simpa using h1
          have e2 : ((n : Int) == 1) = false := by simp; omega
          rw [e1, e2]
  · have hd : decide ((255 : Int) < t.length) = true := by simp; omega
    go_enter Tryd.func24, Tryd.ntmps24
    go_wp2_with fail
    go_ret
    refine ⟨?_, Below.refl _ _⟩
    refine bool_returned ?_
    unfold soundB
    rw [decide_eq_false h255, Bool.and_false]
set_option maxHeartbeats 1000000 in
theorem refCut_any (g o c : Nat) (t pre : List StepD) (T : Tree) (w : World) (ht : t = pre ++ T.ser) (hT : T.Wf) (hr : w.rangeAt g o (stepsL t)) (hl : t.length ≤ 1000) :
    Calls Tryd.prog 37 #[.slice (some ⟨g, o, none⟩) t.length c] w fun e w' => e = .returned (.int .i64 pre.length) ∧ w' = w := by
  have hs := cutInv_start pre T hT
  rw [← ht] at hs
  have HR := Lib.hid hr
  have HS := Lib.hid hs
  clear hr hs ht hT
  go_enter Tryd.func37, Tryd.ntmps37
  go_wp2_with fail
  go_loop [3, 4] (fun i j => ∃ need at_ : Nat, i = .int .i64 need ∧ j = .int .i64 at_ ∧ CutInv t pre need at_ ∧ need + at_ ≤ 1001) (fun _ j => (intOf j).toNat)
  case atStart => exact ⟨1, t.length, rfl, rfl, HS.out, by omega⟩
  case round =>
    obtain ⟨need, at_, rfl, rfl, hc, hn⟩ := hrel
    cases need with
    | zero =>
      have he := cutInv_end hc
      go_wp2_with fail
      subst he
      go_ret
      exact ⟨rfl, rfl⟩
    | succ need =>
      obtain ⟨k, rfl, hk, h0, hc'⟩ := cutInv_step hc
      have hop : w.cell? ⟨g, o + k * 6, none⟩ = some (.int .i64 t[k].op) := step_range HR.out k hk 0 _ rfl
      have HC := Lib.hid hc'
      clear hc' hc
      go_wp2_with fail
      refine (refTakes_any _ _).mono ?_
      rintro e w2 ⟨rfl, rfl⟩
      go_wp2_with fail
      have hk2 := takesI_cases t[k].op
      refine ⟨⟨need + (takesI t[k].op).toNat, k, ?_, rfl, HC.out, by omega⟩, by simp [intOf]⟩
      congr 1
      first | omega | (unfold wrap64; omega)
set_option maxHeartbeats 1000000 in
theorem same_any (a1 a2 : Option Addr) (c1 c2 : Nat) (t : List StepD) (w : World) (h1 : SlAt w a1 t) (h2 : SlAt w a2 t) (hl : t.length ≤ 1000) :
    Calls Tryd.prog 23 #[.slice a1 t.length c1, .slice a2 t.length c2] w fun e w' => e = .returned (.bool true) ∧ Below w.heap.size w w' := by
  have H1 := Lib.hid h1
  have H2 := Lib.hid h2
  clear h1 h2
  go_enter Tryd.func23, Tryd.ntmps23
  go_wp2_with fail
  go_loopw [5] (fun i wr => ∃ k : Nat, k ≤ t.length ∧ i = .int .i64 k ∧ Below w.heap.size w wr) (fun i _ => t.length - (intOf i).toNat)
  case atStart => exact ⟨0, by omega, rfl, Below.refl _ _⟩
  case round =>
    obtain ⟨k, hk, rfl, hb⟩ := hrel
    by_cases hlt : k < t.length
    · obtain ⟨g1, o1, rfl, hr1⟩ : ∃ g o, a1 = some ⟨g, o, none⟩ ∧ wr.rangeAt g o (stepsL t) := by
        rcases H1.out.below hb with h | h
        · subst h; simp at hlt
        · exact h
      obtain ⟨g2, o2, rfl, hr2⟩ : ∃ g o, a2 = some ⟨g, o, none⟩ ∧ wr.rangeAt g o (stepsL t) := by
        rcases H2.out.below hb with h | h
        · subst h; simp at hlt
        · exact h
      have hr1 := step_range hr1 k hlt
      have hr2 := step_range hr2 k hlt
      have y0 : wr.cell? ⟨g1, o1 + k * 6, none⟩ = some (.int .i64 t[k].op) := hr1 0 _ rfl
      have y1 : wr.cell? ⟨g1, o1 + k * 6 + 1, none⟩ = some (.int .i64 t[k].pre) := hr1 1 _ rfl
      have y2 : wr.cell? ⟨g1, o1 + k * 6 + 2, none⟩ = some (.int .i64 t[k].atom) := hr1 2 _ rfl
      have y3 : wr.cell? ⟨g1, o1 + k * 6 + 3, none⟩ = some (.int .i64 t[k].n) := hr1 3 _ rfl
      have y4 : wr.cell? ⟨g1, o1 + k * 6 + 4, none⟩ = some (.int .i64 t[k].num) := hr1 4 _ rfl
      have y5 : wr.cell? ⟨g1, o1 + k * 6 + 5, none⟩ = some (.string t[k].text) := hr1 5 _ rfl
      have z0 : wr.cell? ⟨g2, o2 + k * 6, none⟩ = some (.int .i64 t[k].op) := hr2 0 _ rfl
      have z1 : wr.cell? ⟨g2, o2 + k * 6 + 1, none⟩ = some (.int .i64 t[k].pre) := hr2 1 _ rfl
      have z2 : wr.cell? ⟨g2, o2 + k * 6 + 2, none⟩ = some (.int .i64 t[k].atom) := hr2 2 _ rfl
      have z3 : wr.cell? ⟨g2, o2 + k * 6 + 3, none⟩ = some (.int .i64 t[k].n) := hr2 3 _ rfl
      have z4 : wr.cell? ⟨g2, o2 + k * 6 + 4, none⟩ = some (.int .i64 t[k].num) := hr2 4 _ rfl
      have z5 : wr.cell? ⟨g2, o2 + k * 6 + 5, none⟩ = some (.string t[k].text) := hr2 5 _ rfl
      have HB := Lib.hid hb
      clear hr1 hr2 hb
      go_wp2_with fail
      go_quiet (fail)
      go_wp2_with fail
      go_roundw
      case rel => exact ⟨k + 1, by omega, by go_num, belDrew HB.out⟩
      case measure => simp [intOf]; omega
    · obtain rfl : k = t.length := by omega
      go_wp2_with fail
      go_ret
      exact ⟨rfl, hb⟩
end Go.Proofs.YteiialpecaebdaaDoor
