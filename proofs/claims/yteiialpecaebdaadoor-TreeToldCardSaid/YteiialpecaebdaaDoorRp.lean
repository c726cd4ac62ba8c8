/-
  The reference: Parts.
-/
import Derived.Test.YteiialpecaebdaaDoorRs
import Derived.Test.YteiialpecaebdaaDoorAw
import Derived.Deep.QuietTactic
import Derived.BigQuiet
import Derived.StillTailTactics
set_option linter.unusedVariables false
set_option linter.unusedSimpArgs false
namespace Go.Proofs.YteiialpecaebdaaDoor
open Go.RowKit
open Go.Proofs
open Tree

def RPartsOk (w : World) (L R : List StepD) (e : Ending) (w' : World) : Prop := ∃ l r, e = .returned (.agg #[l, r]) ∧ Below w.heap.size w w' ∧ PartOf w' l L ∧ PartOf w' r R
set_option maxHeartbeats 1000000 in
theorem refParts_no (a : Option Addr) (c : Nat) (t : List StepD) (w : World) (hS : SlAt w a t) (hX : Texts t) (hl : t.length ≤ 1000) (hb : soundB t = false) :
    Calls Tryd.prog 22 #[.slice a t.length c] w (RPartsOk w [] []) := by
  have HS : Hid (∀ o, SlAt (w.alloc o) a t) := fun o => hS.below (belA w o)
  clear hS
  go_enter Tryd.func22, Tryd.ntmps22
  go_wp2_with fail
  refine (refSound_any a c t _ (HS.out _) hX hl).mono ?_
  rintro e w1 ⟨rfl, hb1⟩
  rw [hb]
  have hc : ∀ (j : Nat) (v : Value), (#[.slice none 0 0, .slice none 0 0] : Array Value)[j]? = some v → w1.cell? ⟨w.heap.size, j, none⟩ = some v := fun j v hv => (hb1.cell (p := ⟨w.heap.size, j, none⟩) (by simp)).trans (cellNew w _ _ j v hv)
  have hc0 := hc 0 _ rfl
  have hc1 := hc 1 _ rfl
  have hf0 : w1.frozen? ⟨w.heap.size, 0, none⟩ = false := (hb1.frozen (p := ⟨w.heap.size, 0, none⟩) (by simp)).trans (frozenNew _ _ _ _)
  have hf1 : w1.frozen? ⟨w.heap.size, 1, none⟩ = false := (hb1.frozen (p := ⟨w.heap.size, 1, none⟩) (by simp)).trans (frozenNew _ _ _ _)
  have HB := Lib.hid (bel2 (belA w _) hb1)
  clear hc hb1
  go_wp2_with fail
  exact bodyPost_ret (v := .agg #[.slice none 0 0, .slice none 0 0]) (by simp [results, Tryd.results22, go_sem, *]) rfl ⟨_, _, rfl, (HB.out.setCell (p := ⟨w.heap.size, 0, none⟩) (Nat.le_refl _) _).setCell (p := ⟨w.heap.size, 1, none⟩) (Nat.le_refl _) _, .inl ⟨rfl, rfl⟩, .inl ⟨rfl, rfl⟩⟩
set_option maxHeartbeats 1000000 in
theorem refParts_leaf (g o c : Nat) (x : StepD) (w : World) (hT : (Tree.leaf x).Wf) (hX : Texts [x]) (hr : w.rangeAt g o (stepsL [x])) :
    Calls Tryd.prog 22 #[.slice (some ⟨g, o, none⟩) 1 c] w (RPartsOk w [] []) := by
  have hb : soundB [x] = true := (soundB_iff _).2 ⟨by simp, .leaf x, hT, rfl⟩
  have HS : Hid (∀ u, SlAt (w.alloc u) (some ⟨g, o, none⟩) [x]) := fun u => (SlAt.below (.inr ⟨g, o, rfl, hr⟩) (belA w u))
  have hop := cell_below (w' := w.alloc (.cells #[.slice none 0 0, .slice none 0 0] 55)) (root_cell (T := .leaf x) hr 0 rfl) (belA w _)
  clear hr
  have HH := Lib.hid hT.2
  go_enter Tryd.func22, Tryd.ntmps22
  go_wp2_with fail
  refine (refSound_any (some ⟨g, o, none⟩) c [x] _ (HS.out _) hX (by simp)).mono ?_
  rintro e w1 ⟨rfl, hb1⟩
  rw [hb]
  have hc : ∀ (j : Nat) (v : Value), (#[.slice none 0 0, .slice none 0 0] : Array Value)[j]? = some v → w1.cell? ⟨w.heap.size, j, none⟩ = some v := fun j v hv => (hb1.cell (p := ⟨w.heap.size, j, none⟩) (by simp)).trans (cellNew w _ _ j v hv)
  have hc0 := hc 0 _ rfl
  have hc1 := hc 1 _ rfl
  have hf0 : w1.frozen? ⟨w.heap.size, 0, none⟩ = false := (hb1.frozen (p := ⟨w.heap.size, 0, none⟩) (by simp)).trans (frozenNew _ _ _ _)
  have hf1 : w1.frozen? ⟨w.heap.size, 1, none⟩ = false := (hb1.frozen (p := ⟨w.heap.size, 1, none⟩) (by simp)).trans (frozenNew _ _ _ _)
  have hop1 : w1.cell? ⟨g, o, none⟩ = some (.int .i64 x.op) := cell_below hop hb1
  have HB := Lib.hid (bel2 (belA w _) hb1)
  clear hc hb1 hop
  go_wp2_with fail
  refine (refTakes_any _ _).mono ?_
  rintro e w2 ⟨rfl, rfl⟩
  rw [HH.out]
  go_wp2_with fail
  exact bodyPost_ret (v := .agg #[.slice none 0 0, .slice none 0 0]) (by simp [results, Tryd.results22, go_sem, *]) rfl ⟨_, _, rfl, (HB.out.setCell (p := ⟨w.heap.size, 0, none⟩) (Nat.le_refl _) _).setCell (p := ⟨w.heap.size, 1, none⟩) (Nat.le_refl _) _, .inl ⟨rfl, rfl⟩, .inl ⟨rfl, rfl⟩⟩
set_option maxHeartbeats 1000000 in
theorem refParts_one (g o c : Nat) (n : Nat) (x : StepD) (t : List StepD) (w : World) (hb : soundB t = true) (hlen : t.length = n + 1) (hX : Texts t) (hr : w.rangeAt g o (stepsL t)) (hcell : w.cell? ⟨g, o + n * 6, none⟩ = some (.int .i64 x.op))
    (hcut : ∀ w1 m, Below w.heap.size w w1 → Calls Tryd.prog 37 #[.slice (some ⟨g, o, none⟩) n m] w1 fun e w' => e = .returned (.int .i64 0) ∧ w' = w1) (hk : takesI x.op = 1) (hc : n + 1 ≤ c) (hl : t.length ≤ 255) :
    Calls Tryd.prog 22 #[.slice (some ⟨g, o, none⟩) (n + 1) c] w fun e w' => e = .returned (.agg #[.slice none 0 0, .slice (some ⟨g, o, none⟩) n c]) ∧ Below w.heap.size w w' := by
  have HSND : Hid (∀ w1, Below w.heap.size w w1 → Calls Tryd.prog 24 #[.slice (some ⟨g, o, none⟩) (n + 1) c] w1 (SoundOk w1 t)) := fun w1 h1 => by
    have := refSound_any (some ⟨g, o, none⟩) c t w1 (SlAt.below (.inr ⟨g, o, rfl, hr⟩) h1) hX (by omega)
    rw [hlen] at this
    exact this
  have hop := cell_below (w' := w.alloc (.cells #[.slice none 0 0, .slice none 0 0] 55)) hcell (belA w _)
  have HCUT := Lib.hid hcut
  clear hr hcut hcell
  have HH := Lib.hid hk
  clear hk
  go_enter Tryd.func22, Tryd.ntmps22
  go_wp2_with fail
  refine (HSND.out _ (belA w _)).mono ?_
  rintro e w1 ⟨rfl, hb1⟩
  rw [hb]
  have hc' : ∀ (j : Nat) (v : Value), (#[.slice none 0 0, .slice none 0 0] : Array Value)[j]? = some v → w1.cell? ⟨w.heap.size, j, none⟩ = some v := fun j v hv => (hb1.cell (p := ⟨w.heap.size, j, none⟩) (by simp)).trans (cellNew w _ _ j v hv)
  have hc0 := hc' 0 _ rfl
  have hc1 := hc' 1 _ rfl
  have hf0 : w1.frozen? ⟨w.heap.size, 0, none⟩ = false := (hb1.frozen (p := ⟨w.heap.size, 0, none⟩) (by simp)).trans (frozenNew _ _ _ _)
  have hf1 : w1.frozen? ⟨w.heap.size, 1, none⟩ = false := (hb1.frozen (p := ⟨w.heap.size, 1, none⟩) (by simp)).trans (frozenNew _ _ _ _)
  have hop1 := cell_below hop hb1
  have HB := Lib.hid (bel2 (belA w _) hb1)
  clear hc' hb1 hop
  go_wp2_with fail
  refine (refTakes_any _ _).mono ?_
  rintro e w2 ⟨rfl, rfl⟩
  rw [HH.out]
  go_wp2_with fail
  refine (HCUT.out _ _ HB.out).mono ?_
  rintro e w3 ⟨rfl, rfl⟩
  go_wp2_with fail
  exact bodyPost_ret (v := .agg #[.slice none 0 0, .slice (some ⟨g, o, none⟩) n c]) (by simp [results, Tryd.results22, go_sem, *]) rfl ⟨rfl, (HB.out.setCell (p := ⟨w.heap.size, 0, none⟩) (Nat.le_refl _) _).setCell (p := ⟨w.heap.size, 1, none⟩) (Nat.le_refl _) _⟩
set_option maxHeartbeats 1000000 in
theorem refParts_two (g o c : Nat) (na nb : Nat) (hna : 0 < na) (hnb : 0 < nb) (x : StepD) (t : List StepD) (w : World) (hb : soundB t = true) (hlen : t.length = (na + nb) + 1) (hX : Texts t) (hr : w.rangeAt g o (stepsL t)) (hcell : w.cell? ⟨g, o + (na + nb) * 6, none⟩ = some (.int .i64 x.op))
    (hcut : ∀ w1 m, Below w.heap.size w w1 → Calls Tryd.prog 37 #[.slice (some ⟨g, o, none⟩) (na + nb) m] w1 fun e w' => e = .returned (.int .i64 na) ∧ w' = w1) (hk : takesI x.op = 2) (hc : (na + nb) + 1 ≤ c) (hl : t.length ≤ 255) :
    Calls Tryd.prog 22 #[.slice (some ⟨g, o, none⟩) ((na + nb) + 1) c] w fun e w' => e = .returned (.agg #[.slice (some ⟨g, o, none⟩) na c, .slice (some ⟨g, o + na * 6, none⟩) nb (c - na)]) ∧ Below w.heap.size w w' := by
  have HSND : Hid (∀ w1, Below w.heap.size w w1 → Calls Tryd.prog 24 #[.slice (some ⟨g, o, none⟩) ((na + nb) + 1) c] w1 (SoundOk w1 t)) := fun w1 h1 => by
    have := refSound_any (some ⟨g, o, none⟩) c t w1 (SlAt.below (.inr ⟨g, o, rfl, hr⟩) h1) hX (by omega)
    rw [hlen] at this
    exact this
  have hop := cell_below (w' := w.alloc (.cells #[.slice none 0 0, .slice none 0 0] 55)) hcell (belA w _)
  have HCUT := Lib.hid hcut
  clear hr hcut hcell
  have HH := Lib.hid hk
  clear hk
  go_enter Tryd.func22, Tryd.ntmps22
  go_wp2_with fail
  refine (HSND.out _ (belA w _)).mono ?_
  rintro e w1 ⟨rfl, hb1⟩
  rw [hb]
  have hc' : ∀ (j : Nat) (v : Value), (#[.slice none 0 0, .slice none 0 0] : Array Value)[j]? = some v → w1.cell? ⟨w.heap.size, j, none⟩ = some v := fun j v hv => (hb1.cell (p := ⟨w.heap.size, j, none⟩) (by simp)).trans (cellNew w _ _ j v hv)
  have hc0 := hc' 0 _ rfl
  have hc1 := hc' 1 _ rfl
  have hf0 : w1.frozen? ⟨w.heap.size, 0, none⟩ = false := (hb1.frozen (p := ⟨w.heap.size, 0, none⟩) (by simp)).trans (frozenNew _ _ _ _)
  have hf1 : w1.frozen? ⟨w.heap.size, 1, none⟩ = false := (hb1.frozen (p := ⟨w.heap.size, 1, none⟩) (by simp)).trans (frozenNew _ _ _ _)
  have hop1 := cell_below hop hb1
  have HB := Lib.hid (bel2 (belA w _) hb1)
  clear hc' hb1 hop
  go_wp2_with fail
  refine (refTakes_any _ _).mono ?_
  rintro e w2 ⟨rfl, rfl⟩
  rw [HH.out]
  go_wp2_with fail
  refine (HCUT.out _ _ HB.out).mono ?_
  rintro e w3 ⟨rfl, rfl⟩
  go_wp2_with fail
  have e0 : ¬ c = na := by omega
  have e1 : na + nb - na = nb := by omega
  have e2 : ((na : Int) + nb).toNat = na + nb := by omega
  have e3 : na ≤ c := by omega
  have e4 : 0 ≤ (na : Int) + nb ∧ (na : Int) + nb ≤ c := by omega
  have e5 : (na : Int) ≤ na + nb := by omega
  go_region_with (fail)
  all_goals (go_wp2_with fail)
  all_goals first
    | exact bodyPost_ret (v := .agg #[.slice (some ⟨g, o, none⟩) na c, .slice (some ⟨g, o + na * 6, none⟩) nb (c - na)]) (by simp [results, Tryd.results22, go_sem, *]) rfl ⟨rfl, ((HB.out.setCell (p := ⟨w.heap.size, 0, none⟩) (Nat.le_refl _) _).setCell (p := ⟨w.heap.size, 1, none⟩) (Nat.le_refl _) _).drew⟩
    | (exfalso; omega)
theorem bel_len {t : List StepD} {T : Tree} (h : t = T.ser) : 0 < t.length := by rw [h]; exact T.ser_pos
theorem refParts_any (g o c : Nat) (T : Tree) (w : World) (hT : T.Wf) (hX : Texts T.ser) (hr : w.rangeAt g o (stepsL T.ser)) (hc : T.ser.length ≤ c) (hl : T.ser.length ≤ 255) :
    Calls Tryd.prog 22 #[.slice (some ⟨g, o, none⟩) T.ser.length c] w (RPartsOk w T.left T.right) := by
  have hb : soundB T.ser = true := (soundB_iff _).2 ⟨hl, T, hT, rfl⟩
  have hg : g < w.heap.size := range_lt hr (ser_ne _)
  generalize ht : T.ser = t at *
  cases T with
  | leaf x =>
    subst ht
    exact refParts_leaf g o c x w hT hX hr
  | one x a =>
    have hlen : t.length = a.ser.length + 1 := by rw [← ht]; simp [ser]
    have hcell : w.cell? ⟨g, o + a.ser.length * 6, none⟩ = some (.int .i64 x.op) := root_cell (T := .one x a) (by rw [ht]; exact hr) _ (by rw [ht]; exact hlen)
    have hr' := hr
    rw [← ht, show Tree.ser (.one x a) = a.ser ++ [x] from rfl, stepsL_append] at hr'
    have hcut : ∀ w1 m, Below w.heap.size w w1 → Calls Tryd.prog 37 #[.slice (some ⟨g, o, none⟩) a.ser.length m] w1 fun e w' => e = .returned (.int .i64 0) ∧ w' = w1 := fun w1 m h1 =>
      refCut_any g o m a.ser [] a w1 rfl hT.2.2 (rangeAt_below (range_left hr') h1 hg) (by omega)
    rw [hlen]
    refine (refParts_one g o c a.ser.length x t w hb hlen hX hr hcell hcut hT.2.1 (by omega) hl).mono ?_
    rintro e w' ⟨rfl, hb'⟩
    exact ⟨_, _, rfl, hb', .inl ⟨rfl, rfl⟩, .inr ⟨g, o, c, rfl, a.ser_pos, by show a.ser.length ≤ c; omega, rangeAt_below (range_left hr') hb' hg⟩⟩
  | two x a b =>
    have hlen : t.length = a.ser.length + b.ser.length + 1 := by rw [← ht]; simp [ser]; omega
    have hcell : w.cell? ⟨g, o + (a.ser.length + b.ser.length) * 6, none⟩ = some (.int .i64 x.op) := root_cell (T := .two x a b) (by rw [ht]; exact hr) _ (by rw [ht]; exact hlen)
    have hr' := hr
    rw [← ht, show Tree.ser (.two x a b) = (a.ser ++ b.ser) ++ [x] from rfl, stepsL_append] at hr'
    have hcut : ∀ w1 m, Below w.heap.size w w1 → Calls Tryd.prog 37 #[.slice (some ⟨g, o, none⟩) (a.ser.length + b.ser.length) m] w1 fun e w' => e = .returned (.int .i64 a.ser.length) ∧ w' = w1 := fun w1 m h1 => by
      have := refCut_any g o m (a.ser ++ b.ser) a.ser b w1 rfl hT.2.2.2 (rangeAt_below (range_left hr') h1 hg) (by rw [List.length_append]; omega)
      rw [List.length_append] at this
      exact this
    rw [hlen]
    refine (refParts_two g o c a.ser.length b.ser.length a.ser_pos b.ser_pos x t w hb hlen hX hr hcell hcut hT.2.1 (by omega) hl).mono ?_
    rintro e w' ⟨rfl, hb'⟩
    have h1 := range_left hr'
    rw [stepsL_append] at h1
    have h3 := range_right h1
    rw [stepsL_length] at h3
    exact ⟨_, _, rfl, hb', .inr ⟨g, o, c, rfl, a.ser_pos, by show a.ser.length ≤ c; omega, rangeAt_below (range_left h1) hb' hg⟩, .inr ⟨g, _, _, rfl, b.ser_pos, by show b.ser.length ≤ _; omega, rangeAt_below h3 hb' hg⟩⟩
end Go.Proofs.YteiialpecaebdaaDoor
