/-
  cut and parts: the contracts.
-/
import Derived.Test.YteiialpecaebdaaDoorTe
import Derived.WalkMore
import Derived.Deep.QuietTactic
import Derived.BigQuiet
set_option linter.unusedVariables false
set_option linter.unusedSimpArgs false
namespace Go.Proofs.YteiialpecaebdaaDoor
open Go.RowKit
open Go.Proofs
open Tree

/-- What 'cut' keeps: before 'at' lie a piece and 'need' trees. -/
def CutInv (t pre : List StepD) (need at_ : Nat) : Prop := ∃ L : List Tree, (∀ T ∈ L, T.Wf) ∧ L.length = need ∧ at_ ≤ t.length ∧ t.take at_ = pre ++ sers L
theorem cutInv_start (pre : List StepD) (T : Tree) (h : T.Wf) : CutInv (pre ++ T.ser) pre 1 (pre ++ T.ser).length := ⟨[T], by simpa using h, rfl, Nat.le_refl _, by rw [List.take_length]; simp [sers]⟩
theorem cutInv_end {t pre : List StepD} {at_ : Nat} (h : CutInv t pre 0 at_) : at_ = pre.length := by
  obtain ⟨L, _, h1, h2, h3⟩ := h
  have : L = [] := List.eq_nil_of_length_eq_zero h1
  subst this
  have := congrArg List.length h3
  rw [List.length_take] at this
  simp [sers] at this
  omega
theorem cutInv_step {t pre : List StepD} {need at_ : Nat} (h : CutInv t pre (need + 1) at_) : ∃ k, at_ = k + 1 ∧ ∃ (hk : k < t.length), 0 ≤ (need : Int) + takesI t[k].op ∧ CutInv t pre (need + (takesI t[k].op).toNat) k := by
  obtain ⟨L, hw, h1, h2, h3⟩ := h
  obtain ⟨M, T, rfl, hM⟩ := last_one h1
  rw [sers_append, ← List.append_assoc] at h3
  obtain ⟨l, hl⟩ := T.ser_root
  have e : sers [T] = T.ser := by simp [sers]
  have hlen := congrArg List.length h3
  rw [e, hl] at hlen
  simp only [List.length_take, List.length_append, List.length_singleton] at hlen
  refine ⟨at_ - 1, by omega, by omega, ?_⟩
  have hk : at_ - 1 < t.length := by omega
  have hget : t[at_ - 1] = T.root := by
    have : (t.take at_)[at_ - 1]? = some T.root := by
      rw [h3, e, hl, ← List.append_assoc, List.getElem?_append_right (by simp; omega)]
      have : at_ - 1 - (pre ++ sers M ++ l).length = 0 := by simp; omega
      rw [this]; rfl
    rw [List.getElem?_take] at this
    split at this
    · rw [List.getElem?_eq_getElem hk] at this
      exact Option.some.inj this
    · cases this
  have htake : t.take (at_ - 1) = pre ++ sers M ++ l := by
    have h4 : (t.take at_).take (at_ - 1) = pre ++ sers M ++ l := by
      rw [h3, e, hl, ← List.append_assoc, List.take_append_of_le_length (by simp; omega), List.take_of_length_le (by simp; omega)]
    rw [List.take_take, Nat.min_eq_left (by omega)] at h4
    exact h4
  rw [hget]
  have hT := hw T (by simp)
  have hwM : ∀ T ∈ M, T.Wf := fun T hT => hw T (by simp [hT])
  match T, hT, hl, htake with
  | .leaf x, hT, hl, htake =>
    obtain ⟨_, hx⟩ := hT
    simp only [root, hx]
    refine ⟨by omega, M, hwM, by omega, by omega, ?_⟩
    have : l = [] := by
      have := congrArg List.length hl
      simp [ser] at this
      exact this
    rw [htake, this, List.append_nil]
  | .one x a, hT, hl, htake =>
    obtain ⟨_, hx, ha⟩ := hT
    simp only [root, hx]
    refine ⟨by omega, M ++ [a], ?_, by simp; omega, by omega, ?_⟩
    · intro T hT
      rcases List.mem_append.1 hT with hT | hT
      · exact hwM T hT
      · obtain rfl := List.mem_singleton.1 hT
        exact ha
    · have : l = a.ser := by
        have := List.append_inj' hl rfl
        exact this.1.symm
      rw [htake, this, sers_append, List.append_assoc]
      simp [sers]
  | .two x a b, hT, hl, htake =>
    obtain ⟨_, hx, ha, hb⟩ := hT
    simp only [root, hx]
    refine ⟨by omega, M ++ [a, b], ?_, by simp; omega, by omega, ?_⟩
    · intro T hT
      rcases List.mem_append.1 hT with hT | hT
      · exact hwM T hT
      · simp at hT
        rcases hT with rfl | rfl
        · exact ha
        · exact hb
    · have : l = a.ser ++ b.ser := by
        have := List.append_inj' hl rfl
        exact this.1.symm
      rw [htake, this, sers_append, List.append_assoc]
      simp [sers]
set_option maxHeartbeats 1000000 in
theorem cut_any (g o c : Nat) (t pre : List StepD) (T : Tree) (w : World) (ht : t = pre ++ T.ser) (hT : T.Wf) (hr : w.rangeAt g o (stepsL t)) (hl : t.length ≤ 1000) :
    Calls Tryd.prog 45 #[.slice (some ⟨g, o, none⟩) t.length c] w fun e w' => e = .returned (.int .i64 pre.length) ∧ Below w.heap.size w w' := by
  have hs := cutInv_start pre T hT
  rw [← ht] at hs
  have hg : g < w.heap.size := range_lt hr (by
    intro e
    have h1 := congrArg List.length e
    rw [stepsL_length] at h1
    have := T.ser_pos
    have h2 := congrArg List.length ht
    simp at h1 h2
    omega)
  have HR := Lib.hid hr
  have HS := Lib.hid hs
  clear hr hs ht hT
  go_enter Tryd.func45, Tryd.ntmps45
  go_wp2_with fail
  go_step3
  go_wp2_with fail
  go_step3
  go_wp2_with fail
  go_loopw [3, 4] (fun i j wr => ∃ need at_ : Nat, i = .int .i64 need ∧ j = .int .i64 at_ ∧ Below w.heap.size w wr ∧ CutInv t pre need at_ ∧ need + at_ ≤ 1001) (fun _ j _ => (intOf j).toNat)
  case atStart => exact ⟨1, t.length, rfl, rfl, Below.refl _ _, HS.out, by omega⟩
  case round =>
    obtain ⟨need, at_, rfl, rfl, hb, hc, hn⟩ := hrel
    cases need with
    | zero =>
      have he := cutInv_end hc
      go_wp2_with fail
      subst he
      rw [Exit.noGoto_ret]
      go_ret
      exact ⟨rfl, hb⟩
    | succ need =>
      obtain ⟨k, rfl, hk, h0, hc'⟩ := cutInv_step hc
      have hr := step_range (rangeAt_below HR.out hb hg) k hk
      unfold stepL at hr
      have HR := Lib.hid hr; have HB := Lib.hid hb; have HC := Lib.hid hc'
      clear hr hb hc' hc
      go_wp2_with (first | (refine wpList_load_mid rfl 35 _ rfl g _ rfl _ _ HR.out Tryd.underlying35 rfl size_S ?_) | (go_at_call 27; refine (takes_any _ _ _ _ _ _ _).mono ?_; rintro e w1 ⟨rfl, hb1⟩))
      have hk2 := takesI_cases t[k].op
      refine ⟨⟨need + (takesI t[k].op).toNat, k, ?_, rfl, bel2 HB.out hb1, HC.out, by omega⟩, by simp [intOf]⟩
      congr 1
      unfold wrap64
      omega
/-! parts. -/
theorem belDrew {B n : Nat} {w w1 : World} (h : Below B w w1) : Below B w (w1.drewN n) := by
  first | exact h.drewN | exact h.drewN _ | exact h.drew | exact ⟨h.os, h.tape, h.output, h.size, h.block⟩
def PartsIs (w : World) (l r : Value) (e : Ending) (w' : World) : Prop := e = .returned (.tuple #[l, r]) ∧ Below w.heap.size w w'
set_option maxHeartbeats 1000000 in
theorem parts_leaf (g o c : Nat) (x : StepD) (w : World) (hr : w.rangeAt g o (stepsL [x])) (h : takesI x.op = 0) :
    Calls Tryd.prog 32 #[.slice (some ⟨g, o, none⟩) 1 c] w (PartsIs w (.slice none 0 0) (.slice none 0 0)) := by
  have hr : w.rangeAt g o (stepL x) := by simpa [stepsL] using hr
  unfold stepL at hr
  have HR := Lib.hid hr
  clear hr
  have HH := Lib.hid h
  go_enter Tryd.func32, Tryd.ntmps32
  go_wp2_with (first | (refine wpList_load_mid rfl 35 _ rfl g _ rfl _ _ HR.out Tryd.underlying35 rfl size_S ?_) | (go_at_call 27; refine (takes_any _ _ _ _ _ _ _).mono ?_; rintro e w1 ⟨rfl, hb1⟩; rw [HH.out]))
  go_ret2
  exact ⟨rfl, hb1⟩
set_option maxHeartbeats 1000000 in
theorem parts_one (g o c n : Nat) (x : StepD) (w : World) (hr : w.rangeAt g (o + n * 6) (stepL x)) (h : takesI x.op = 1) (hc : n + 1 ≤ c) (hn : n ≤ 1000) (h0 : 0 < n) :
    Calls Tryd.prog 32 #[.slice (some ⟨g, o, none⟩) (n + 1) c] w (PartsIs w (.slice none 0 0) (.slice (some ⟨g, o, none⟩) n c)) := by
  unfold stepL at hr
  have HR := Lib.hid hr
  clear hr
  have HH := Lib.hid h
  go_enter Tryd.func32, Tryd.ntmps32
  go_wp2_with (first | (refine wpList_load_mid rfl 35 _ rfl g _ rfl _ _ HR.out Tryd.underlying35 rfl size_S ?_) | (go_at_call 27; refine (takes_any _ _ _ _ _ _ _).mono ?_; rintro e w1 ⟨rfl, hb1⟩; rw [HH.out]))
  go_quiet (fail)
  go_wp2_with fail
  go_ret2
  exact ⟨rfl, belDrew hb1⟩
set_option maxHeartbeats 1000000 in
theorem parts_two (g o c na nb : Nat) (x : StepD) (A B : Tree) (w : World) (hA : A.Wf) (hB : B.Wf) (hna : A.ser.length = na) (hnb : B.ser.length = nb) (hr0 : w.rangeAt g o (stepsL (A.ser ++ B.ser))) (hr : w.rangeAt g (o + (na + nb) * 6) (stepL x)) (h : takesI x.op = 2) (hc : na + nb + 1 ≤ c) (hn : na + nb ≤ 1000) (h0 : 0 < na) (h1 : 0 < nb) :
    Calls Tryd.prog 32 #[.slice (some ⟨g, o, none⟩) (na + nb + 1) c] w (PartsIs w (.slice (some ⟨g, o, none⟩) na c) (.slice (some ⟨g, o + na * 6, none⟩) nb (c - na))) := by
  have hg : g < w.heap.size := World.block_lt_of_cell? w ⟨g, o + (na + nb) * 6 + 0, none⟩ (hr 0 _ rfl)
  unfold stepL at hr
  have HR := Lib.hid hr
  have HC : ∀ w1 m, Below w.heap.size w w1 → Calls Tryd.prog 45 #[.slice (some ⟨g, o, none⟩) (na + nb) m] w1 fun e w' => e = .returned (.int .i64 na) ∧ Below w1.heap.size w1 w' := fun w1 m hb => by
    have := cut_any g o m (A.ser ++ B.ser) A.ser B w1 rfl hB (rangeAt_below hr0 hb hg) (by simp; omega)
    rw [List.length_append, hna, hnb] at this
    exact this
  replace HC := Lib.hid HC
  clear hr hr0 hA hB
  have HH := Lib.hid h
  have e0 : ¬ c = na := by omega
  have e1 : na + nb - na = nb := by omega
  go_enter Tryd.func32, Tryd.ntmps32
  go_wp2_with (first | (refine wpList_load_mid rfl 35 _ rfl g _ rfl _ _ HR.out Tryd.underlying35 rfl size_S ?_) | (go_at_call 27; refine (takes_any _ _ _ _ _ _ _).mono ?_; rintro e w1 ⟨rfl, hb1⟩; rw [HH.out]) | (go_at_call 45; refine (HC.out _ _ hb1).mono ?_; rintro e w2 ⟨rfl, hb2⟩))
  go_quiet (fail)
  go_wp2_with fail
  go_ret2
  refine ⟨?_, belDrew (bel2 hb1 hb2)⟩
  rw [← e1]
  simp only [Nat.add_sub_cancel_left]
  rfl
end Go.Proofs.YteiialpecaebdaaDoor
