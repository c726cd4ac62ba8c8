/-
  The reference's row of numbers: text, sym.
-/
import Derived.Test.YteiialpecaebdaaDoorRw
import Derived.Test.YteiialpecaebdaaDoorRt2
set_option linter.unusedVariables false
set_option linter.unusedSimpArgs false
namespace Go.Proofs.YteiialpecaebdaaDoor
open Go.RowKit
open Go.Proofs

def goodT (s : ByteArray) : Prop := okText s.toList = true ∧ s.size ≤ 3
def TextOk (b : Nat) (w : World) (e : Ending) (w' : World) : Prop := ∃ s : ByteArray, e = .returned (.string s) ∧ goodT s ∧ Row b w' ∧ w.grownBy w' (some b)
theorem Row.lt {b : Nat} {w : World} (h : Row b w) : b < w.heap.size := by
  obtain ⟨a, n, c, k, h1, _⟩ := h
  exact (Array.getElem?_eq_some_iff.1 h1).1
theorem grB {w w' : World} (h : Below w.heap.size w w') (b : Nat) : w.grownBy w' (some b) := grownBy_below (B := 0) h _
theorem grow_cell {w w' : World} {b g o : Nat} {v : Value} (h : w.cell? ⟨g, o, none⟩ = some v) (hg : w.grownBy w' (some b)) (hne : g ≠ b) : w'.cell? ⟨g, o, none⟩ = some v := by
  have hl := World.block_lt_of_cell? _ _ h
  have hb := hg.block g hl (by intro e; exact hne (Option.some.inj e))
  simp only [World.cell?] at h ⊢
  rw [hb]; exact h
theorem ok0 : goodT (⟨#[120]⟩ : ByteArray) := ⟨by rw [ByteArray.toList_eq]; decide, by decide⟩
theorem ok1 : goodT (⟨#[97, 32, 98]⟩ : ByteArray) := ⟨by rw [ByteArray.toList_eq]; decide, by decide⟩
theorem ok2 : goodT (⟨#[]⟩ : ByteArray) := ⟨by rw [ByteArray.toList_eq]; decide, by decide⟩
theorem ok3 : goodT (⟨#[49, 45, 50]⟩ : ByteArray) := ⟨by rw [ByteArray.toList_eq]; decide, by decide⟩
theorem ok4 : goodT (⟨#[35]⟩ : ByteArray) := ⟨by rw [ByteArray.toList_eq]; decide, by decide⟩
set_option maxHeartbeats 1000000 in
theorem text_any (b : Nat) (w : World) (hR : Row b w) : Calls Tryd.prog 35 #[.pointer (some ⟨b, 0, none⟩)] w (TextOk b w) := by
  have HR := Lib.hid hR
  clear hR
  go_enter Tryd.func35, Tryd.ntmps35
  go_wp2_with fail
  refine (next_any b 5 _ (HR.out.kept (belA w _)) (by omega) (by omega)).mono ?_
  rintro e w1 ⟨r, rfl, h0, h5, hR1, hg1⟩
  have hbl := HR.out.lt
  have hc : ∀ (j : Nat) (v : Value), (#[.string ⟨#[120]⟩, .string ⟨#[97, 32, 98]⟩, .string ⟨#[]⟩, .string ⟨#[49, 45, 50]⟩, .string ⟨#[35]⟩] : Array Value)[j]? = some v → w1.cell? ⟨w.heap.size, j, none⟩ = some v := fun j v hv => grow_cell (cellNew w _ 74 j v hv) hg1 (by omega)
  have hc0 := hc 0 _ rfl
  have hc1 := hc 1 _ rfl
  have hc2 := hc 2 _ rfl
  have hc3 := hc 3 _ rfl
  have hc4 := hc 4 _ rfl
  have HG : Hid (w.grownBy w1 (some b)) := grownTrans (grB (belA w _) b) hg1
  have HR1 := Lib.hid hR1
  clear hc hg1 hR1
  have hr : r = 0 ∨ r = 1 ∨ r = 2 ∨ r = 3 ∨ r = 4 := by omega
  clear h0 h5
  rcases hr with rfl | rfl | rfl | rfl | rfl
  all_goals
    go_wp2_with fail
    go_ret
    exact ⟨_, rfl, by first | exact ok0 | exact ok1 | exact ok2 | exact ok3 | exact ok4, HR1.out, HG.out⟩
theorem grow_frozen {w w' : World} {b g o : Nat} (hl : g < w.heap.size) (hg : w.grownBy w' (some b)) (hne : g ≠ b) : w'.frozen? ⟨g, o, none⟩ = w.frozen? ⟨g, o, none⟩ := by
  have hb := hg.block g hl (by intro e; exact hne (Option.some.inj e))
  simp only [World.frozen?]
  rw [hb]
def mayT (x : StepD) : Prop := mayB x = true ∧ x.text.size ≤ 3
def SymOk (b : Nat) (w : World) (e : Ending) (w' : World) : Prop := ∃ x : StepD, e = .returned (.agg (stepL x).toArray) ∧ mayT x ∧ takesI x.op = 0 ∧ Row b w' ∧ w.grownBy w' (some b)
theorem own_base {w : World} {B e s n b : Nat} {v : Value} {xs : List Value} (h : w.ownsRow B e s v n xs) (hb : b < B) : v.ownBlock = none ∨ v.ownBlock ≠ some b := by
  rcases h.2 with ⟨rfl, _⟩ | ⟨g, cap, cur, rfl, hg, _⟩
  · exact .inl rfl
  · refine .inr fun e => ?_
    have : g = b := by simpa [Value.ownBlock] using e
    omega
theorem Row.set {b : Nat} {w : World} {p : Addr} {v : Value} (h : Row b w) (hp : b < p.block) : Row b (w.setCell p v) := by
  obtain ⟨a, n, c, k, h1, h2, h3, h4⟩ := h
  refine ⟨a, n, c, k, (Below.heap_setCell _ _ _ _ (by omega)).trans h1, h2, h3, ?_⟩
  rcases h4 with h4 | ⟨g, o, h5, h6, h7⟩
  · exact .inl h4
  · refine .inr ⟨g, o, h5, h6, fun i hi => ?_⟩
    obtain ⟨z, hz⟩ := h7 i hi
    exact ⟨z, (World.cell?_setCell_far _ _ _ _ (by show p.block ≠ g; omega)).trans hz⟩
theorem grownSet {w w' : World} {r : Option Nat} {p : Addr} {v : Value} (h : w.grownBy w' r) (hp : w.heap.size ≤ p.block) : w.grownBy (w'.setCell p v) r :=
  ⟨h.os, h.tape, h.output, by have := h.size; simpa [World.setCell] using this, fun k hk hn => (Below.heap_setCell _ _ _ _ (by omega)).trans (h.block k hk hn)⟩
theorem noTextE : (⟨#[]⟩ : ByteArray).toList = [] := by rw [ByteArray.toList_eq]
theorem may_made (pre r1 n : Int) (h1 : 0 ≤ r1) (h2 : r1 < 48) (hp : pre = -1 ∨ (0 ≤ pre ∧ pre < 20 ∧ metricAt r1 = true)) (h3 : -99 ≤ n) (h4 : n ≤ 99) : mayT ⟨2, pre, r1, n, 0, ⟨#[]⟩⟩ := by
  refine ⟨?_, by show (⟨#[]⟩ : ByteArray).size ≤ 3; decide⟩
  show mayB _ = true
  rw [mayB_sym, noTextE]
  simp only [symB, decide_eq_true h1, decide_eq_true h2, decide_eq_true h3, decide_eq_true h4]
  rcases hp with rfl | ⟨a, b, c⟩
  · rfl
  · simp [a, b, c]
theorem heapGrow {w w' : World} {b g : Nat} {o : Obj} (h : w.heap[g]? = some o) (hg : w.grownBy w' (some b)) (hne : g ≠ b) : w'.heap[g]? = some o := by
  rw [hg.block g (Array.getElem?_eq_some_iff.1 h).1 (by intro e; exact hne (Option.some.inj e))]
  exact h
def zeroS : Array Value := #[.int .i64 0, .int .i64 0, .int .i64 0, .int .i64 0, .int .i64 0, .string ⟨#[]⟩]
set_option maxHeartbeats 2000000 in
theorem sym_any (b : Nat) (w : World) (hR : Row b w) : Calls Tryd.prog 34 #[.pointer (some ⟨b, 0, none⟩)] w (SymOk b w) := by
  have HR := Lib.hid hR
  have hbl := hR.lt
  clear hR
  go_enter Tryd.func34, Tryd.ntmps34
  go_wp2_with fail
  refine (refTable_ok _).mono ?_
  intro e w1 hT
  obtain ⟨a1, c1, a2, c2, ss, rfl, hT, hb1⟩ := hT
  obtain ⟨g, cap, hg⟩ := form_of hT.atoms (by omega)
  cases hg
  have HT := Lib.hid hT.atoms
  have HR1 : Hid (Row b (w1.alloc (.cells #[.slice (some ⟨g, 0, none⟩) 48 c1, .slice a2 20 c2] 72))) := ((HR.out.kept (belA w _)).kept hb1).kept (belA w1 _)
  have HB1 := Lib.hid hb1
  have hz1 := hb1.size
  clear hT hb1
  go_wp2_with fail
  refine (next_any b 48 _ HR1.out (by omega) (by omega)).mono ?_
  rintro e w2 ⟨r1, rfl, h10, h11, hR2, hg2⟩
  have hlA : w.heap.size < w1.heap.size := by simp at hz1; omega
  have tc : ∀ (o : Obj) (j : Nat) (v : Value), (#[.slice (some ⟨g, 0, none⟩) 48 c1, .slice a2 20 c2] : Array Value)[j]? = some v → (w2.alloc o).cell? ⟨w1.heap.size, j, none⟩ = some v := fun o j v hv => cellAlloc o (grow_cell (cellNew w1 _ 72 j v hv) hg2 (by omega))
  have tc0 := fun o => tc o 0 _ rfl
  have tc1 := fun o => tc o 1 _ rfl
  have HTA : Hid (w2.ownsRow (w.heap.size + 1) 77 12 (.slice (some ⟨g, 0, none⟩) 48 c1) 48 (atomsV 48 ss)) := by
    have h := HT.out.alloc (.cells #[.slice (some ⟨g, 0, none⟩) 48 c1, .slice a2 20 c2] 72)
    have h2 := h.kept hg2 (own_base h (by simp; omega))
    have e : (w.alloc (.cells #[.int .i64 0, .int .i64 0, .int .i64 0, .int .i64 0, .int .i64 0, .string ⟨#[]⟩] 35)).heap.size = w.heap.size + 1 := by simp
    rw [e] at h2
    exact h2
  have hmc : ∀ o, (w2.alloc o).cell? ⟨g, r1.toNat * 12 + 5, none⟩ = some (.bool (metricAt r1)) := fun o => cellAlloc o (atom_metric HTA.out r1.toNat (by omega))
  have HG2 : Hid (w.grownBy w2 (some b)) := grownTrans (grownTrans (grB (belA w _) b) (grB HB1.out b)) (grownTrans (grB (belA w1 _) b) hg2)
  have HR2 := Lib.hid hR2
  have HG2x := Lib.hid hg2
  have hz2 := hg2.size
  clear tc hg2 hR2
  have hz2' : w1.heap.size < w2.heap.size := by simp at hz2; omega
  have hAc : (w2.alloc (.cells #[.int .i64 2, .int .i64 (-1), .int .i64 r1, .int .i64 1, .int .i64 0, .string ⟨#[]⟩] 35)).heap[w.heap.size]? = some (.cells zeroS 35 (0, 0)) := by
    have k1 : (w.alloc (.cells zeroS 35)).heap[w.heap.size]? = some (.cells zeroS 35 (0, 0)) := heap_alloc_new w _
    have k2 : w1.heap[w.heap.size]? = some (.cells zeroS 35 (0, 0)) := (HB1.out.block _ (by simp)).trans k1
    have k3 := heapGrow (heapGrow k2 (grB (belA w1 (.cells #[.slice (some ⟨g, 0, none⟩) 48 c1, .slice a2 20 c2] 72)) b) (by omega)) HG2x.out (by omega)
    exact heapGrow k3 (grB (belA w2 _) b) (by omega)
  have hXc : (w2.alloc (.cells #[.int .i64 2, .int .i64 (-1), .int .i64 r1, .int .i64 1, .int .i64 0, .string ⟨#[]⟩] 35)).heap[w2.heap.size]? = some (.cells #[.int .i64 2, .int .i64 (-1), .int .i64 r1, .int .i64 1, .int .i64 0, .string ⟨#[]⟩] 35 (0, 0)) := heap_alloc_new w2 _
  have HRc := Lib.hid (HR2.out.kept (belA w2 (.cells #[.int .i64 2, .int .i64 (-1), .int .i64 r1, .int .i64 1, .int .i64 0, .string ⟨#[]⟩] 35)))
  have HGc := Lib.hid (grownTrans HG2.out (grB (belA w2 (.cells #[.int .i64 2, .int .i64 (-1), .int .i64 r1, .int .i64 1, .int .i64 0, .string ⟨#[]⟩] 35)) b))
  have hX0 := hXc
  cases hm : metricAt r1
  · have HM := Lib.hid hm
    rw [hm] at hmc
    clear hm
    go_wp2_with fail
    refine (next_any b 3 _ HRc.out (by omega) (by omega)).mono ?_
    rintro e w4 ⟨r3, rfl, h30, h31, hR4, hg4⟩
    by_cases h3 : r3 = 0
    · subst h3
      go_wp2_with fail
      refine (next_any b 7 _ hR4 (by omega) (by omega)).mono ?_
      rintro e w5 ⟨r7, rfl, h70, h71, hR5, hg5⟩
      have hX : w5.heap[w2.heap.size]? = some (.cells #[.int .i64 2, .int .i64 (-1), .int .i64 r1, .int .i64 1, .int .i64 0, .string ⟨#[]⟩] 35 (0, 0)) := heapGrow (heapGrow hXc hg4 (by omega)) hg5 (by omega)
      have hA : w5.heap[w.heap.size]? = some (.cells zeroS 35 (0, 0)) := heapGrow (heapGrow hAc hg4 (by omega)) hg5 (by omega)
      unfold zeroS at hA
      have x0_ : w5.cell? ⟨w2.heap.size, 0, none⟩ = some (.int .i64 2) := by simp [World.cell?, hX]
      have x1_ : w5.cell? ⟨w2.heap.size, 1, none⟩ = some (.int .i64 (-1)) := by simp [World.cell?, hX]
      have x2_ : w5.cell? ⟨w2.heap.size, 2, none⟩ = some (.int .i64 r1) := by simp [World.cell?, hX]
      have x3_ : w5.cell? ⟨w2.heap.size, 3, none⟩ = some (.int .i64 1) := by simp [World.cell?, hX]
      have x4_ : w5.cell? ⟨w2.heap.size, 4, none⟩ = some (.int .i64 0) := by simp [World.cell?, hX]
      have x5_ : w5.cell? ⟨w2.heap.size, 5, none⟩ = some (.string ⟨#[]⟩) := by simp [World.cell?, hX]
      have a0_ : w5.cell? ⟨w.heap.size, 0, none⟩ = some (.int .i64 0) := by simp [World.cell?, hA]
      have f0_ : w5.frozen? ⟨w.heap.size, 0, none⟩ = false := by simp [World.frozen?, hA]
      have a1_ : w5.cell? ⟨w.heap.size, 1, none⟩ = some (.int .i64 0) := by simp [World.cell?, hA]
      have f1_ : w5.frozen? ⟨w.heap.size, 1, none⟩ = false := by simp [World.frozen?, hA]
      have a2_ : w5.cell? ⟨w.heap.size, 2, none⟩ = some (.int .i64 0) := by simp [World.cell?, hA]
      have f2_ : w5.frozen? ⟨w.heap.size, 2, none⟩ = false := by simp [World.frozen?, hA]
      have a3_ : w5.cell? ⟨w.heap.size, 3, none⟩ = some (.int .i64 0) := by simp [World.cell?, hA]
      have f3_ : w5.frozen? ⟨w.heap.size, 3, none⟩ = false := by simp [World.frozen?, hA]
      have a4_ : w5.cell? ⟨w.heap.size, 4, none⟩ = some (.int .i64 0) := by simp [World.cell?, hA]
      have f4_ : w5.frozen? ⟨w.heap.size, 4, none⟩ = false := by simp [World.frozen?, hA]
      have a5_ : w5.cell? ⟨w.heap.size, 5, none⟩ = some (.string ⟨#[]⟩) := by simp [World.cell?, hA]
      have f5_ : w5.frozen? ⟨w.heap.size, 5, none⟩ = false := by simp [World.frozen?, hA]
      have f3x : w5.frozen? ⟨w2.heap.size, 3, none⟩ = false := by simp [World.frozen?, hX]
      have HG : Hid (w.grownBy w5 (some b)) := grownTrans (grownTrans HGc.out hg4) hg5
      have HR5 := Lib.hid hR5
      have HX := Lib.hid hX
      have HA := Lib.hid hA
      have hlt1 : w.heap.size < w5.heap.size := (Array.getElem?_eq_some_iff.1 hA).1
      have hne1 : ¬ w2.heap.size = w.heap.size := by omega
      have hne2 : ¬ w.heap.size = w2.heap.size := by omega
      clear hg4 hg5 hR4 hR5 hX hA
      go_wp2_with fail
      exact bodyPost_ret (v := .agg (stepL (StepD.mk 2 (-1) r1 (r7 - 3) 0 ⟨#[]⟩)).toArray) (by simp [results, stepL, Tryd.results34, go_sem, *]) rfl ⟨_, rfl, may_made _ _ _ (by omega) (by omega) (.inl rfl) (by omega) (by omega), rfl, Row.set (Row.set (Row.set (Row.set (Row.set (Row.set (Row.set HR5.out (by show b < w2.heap.size; omega)) hbl) hbl) hbl) hbl) hbl) hbl, grownSet (grownSet (grownSet (grownSet (grownSet (grownSet (grownSet HG.out (by show w.heap.size ≤ w2.heap.size; omega)) (Nat.le_refl _)) (Nat.le_refl _)) (Nat.le_refl _)) (Nat.le_refl _)) (Nat.le_refl _)) (Nat.le_refl _)⟩
    · have h3b : (r3 == 0) = false := by simpa using h3
      have hX : w4.heap[w2.heap.size]? = some (.cells #[.int .i64 2, .int .i64 (-1), .int .i64 r1, .int .i64 1, .int .i64 0, .string ⟨#[]⟩] 35 (0, 0)) := heapGrow hXc hg4 (by omega)
      have hA : w4.heap[w.heap.size]? = some (.cells zeroS 35 (0, 0)) := heapGrow hAc hg4 (by omega)
      unfold zeroS at hA
      have x0_ : w4.cell? ⟨w2.heap.size, 0, none⟩ = some (.int .i64 2) := by simp [World.cell?, hX]
      have x1_ : w4.cell? ⟨w2.heap.size, 1, none⟩ = some (.int .i64 (-1)) := by simp [World.cell?, hX]
      have x2_ : w4.cell? ⟨w2.heap.size, 2, none⟩ = some (.int .i64 r1) := by simp [World.cell?, hX]
      have x3_ : w4.cell? ⟨w2.heap.size, 3, none⟩ = some (.int .i64 1) := by simp [World.cell?, hX]
      have x4_ : w4.cell? ⟨w2.heap.size, 4, none⟩ = some (.int .i64 0) := by simp [World.cell?, hX]
      have x5_ : w4.cell? ⟨w2.heap.size, 5, none⟩ = some (.string ⟨#[]⟩) := by simp [World.cell?, hX]
      have a0_ : w4.cell? ⟨w.heap.size, 0, none⟩ = some (.int .i64 0) := by simp [World.cell?, hA]
      have f0_ : w4.frozen? ⟨w.heap.size, 0, none⟩ = false := by simp [World.frozen?, hA]
      have a1_ : w4.cell? ⟨w.heap.size, 1, none⟩ = some (.int .i64 0) := by simp [World.cell?, hA]
      have f1_ : w4.frozen? ⟨w.heap.size, 1, none⟩ = false := by simp [World.frozen?, hA]
      have a2_ : w4.cell? ⟨w.heap.size, 2, none⟩ = some (.int .i64 0) := by simp [World.cell?, hA]
      have f2_ : w4.frozen? ⟨w.heap.size, 2, none⟩ = false := by simp [World.frozen?, hA]
      have a3_ : w4.cell? ⟨w.heap.size, 3, none⟩ = some (.int .i64 0) := by simp [World.cell?, hA]
      have f3_ : w4.frozen? ⟨w.heap.size, 3, none⟩ = false := by simp [World.frozen?, hA]
      have a4_ : w4.cell? ⟨w.heap.size, 4, none⟩ = some (.int .i64 0) := by simp [World.cell?, hA]
      have f4_ : w4.frozen? ⟨w.heap.size, 4, none⟩ = false := by simp [World.frozen?, hA]
      have a5_ : w4.cell? ⟨w.heap.size, 5, none⟩ = some (.string ⟨#[]⟩) := by simp [World.cell?, hA]
      have f5_ : w4.frozen? ⟨w.heap.size, 5, none⟩ = false := by simp [World.frozen?, hA]
      have f3x : w4.frozen? ⟨w2.heap.size, 3, none⟩ = false := by simp [World.frozen?, hX]
      have HG : Hid (w.grownBy w4 (some b)) := grownTrans HGc.out hg4
      have HR4 := Lib.hid hR4
      have HX := Lib.hid hX
      have HA := Lib.hid hA
      have hlt1 : w.heap.size < w4.heap.size := (Array.getElem?_eq_some_iff.1 hA).1
      have hne1 : ¬ w2.heap.size = w.heap.size := by omega
      have hne2 : ¬ w.heap.size = w2.heap.size := by omega
      clear hg4 hR4 hX hA
      go_wp2_with fail
      exact bodyPost_ret (v := .agg (stepL (StepD.mk 2 (-1) r1 1 0 ⟨#[]⟩)).toArray) (by simp [results, stepL, Tryd.results34, go_sem, *]) rfl ⟨_, rfl, may_made _ _ _ (by omega) (by omega) (.inl rfl) (by omega) (by omega), rfl, Row.set (Row.set (Row.set (Row.set (Row.set (Row.set HR4.out hbl) hbl) hbl) hbl) hbl) hbl, grownSet (grownSet (grownSet (grownSet (grownSet (grownSet HG.out (Nat.le_refl _)) (Nat.le_refl _)) (Nat.le_refl _)) (Nat.le_refl _)) (Nat.le_refl _)) (Nat.le_refl _)⟩
  · have HM := Lib.hid hm
    rw [hm] at hmc
    clear hm
    go_wp2_with fail
    refine (next_any b 2 _ HRc.out (by omega) (by omega)).mono ?_
    rintro e w3 ⟨r2, rfl, h20, h21, hR3, hg3⟩
    have hXc3 := heapGrow hXc hg3 (by omega)
    have hAc3 := heapGrow hAc hg3 (by omega)
    have HR3 := Lib.hid hR3
    have HG3 := Lib.hid (grownTrans HGc.out hg3)
    have tb0 := grow_cell (tc1 (.cells #[.int .i64 2, .int .i64 (-1), .int .i64 r1, .int .i64 1, .int .i64 0, .string ⟨#[]⟩] 35)) hg3 (by omega)
    by_cases h2 : r2 = 0
    · subst h2
      go_wp2_with fail
      refine (next_any b 20 _ hR3 (by omega) (by omega)).mono ?_
      rintro e wp ⟨rp, rfl, hp0, hp1, hRp, hgp⟩
      have hXp := heapGrow hXc3 hgp (by omega)
      have hAp := heapGrow hAc3 hgp (by omega)
      have px1 : wp.cell? ⟨w2.heap.size, 1, none⟩ = some (.int .i64 (-1)) := by simp [World.cell?, hXp]
      have pf1 : wp.frozen? ⟨w2.heap.size, 1, none⟩ = false := by simp [World.frozen?, hXp]
      have HGP := Lib.hid (grownTrans HG3.out hgp)
      clear hXc3 hAc3 hg3 hR3 hgp tb0
      go_wp2_with fail
      have HRc : Hid (Row b (wp.setCell ⟨w2.heap.size, 1, none⟩ (.int .i64 rp))) := Row.set hRp (by show b < w2.heap.size; omega)
      have HGc : Hid (w.grownBy (wp.setCell ⟨w2.heap.size, 1, none⟩ (.int .i64 rp)) (some b)) := grownSet HGP.out (by show w.heap.size ≤ w2.heap.size; omega)
      have hXc : (wp.setCell ⟨w2.heap.size, 1, none⟩ (.int .i64 rp)).heap[w2.heap.size]? = some (.cells #[.int .i64 2, .int .i64 rp, .int .i64 r1, .int .i64 1, .int .i64 0, .string ⟨#[]⟩] 35 (0, 0)) := heap_setCell_same wp w2.heap.size 1 _ _ _ hXp
      have hAc : (wp.setCell ⟨w2.heap.size, 1, none⟩ (.int .i64 rp)).heap[w.heap.size]? = some (.cells zeroS 35 (0, 0)) := (Below.heap_setCell _ _ _ _ (by show w.heap.size ≠ w2.heap.size; omega)).trans hAp
      clear px1 pf1 hRp hXp hAp
      refine (next_any b 3 _ HRc.out (by omega) (by omega)).mono ?_
      rintro e w4 ⟨r3, rfl, h30, h31, hR4, hg4⟩
      by_cases h3 : r3 = 0
      · subst h3
        go_wp2_with fail
        refine (next_any b 7 _ hR4 (by omega) (by omega)).mono ?_
        rintro e w5 ⟨r7, rfl, h70, h71, hR5, hg5⟩
        have hX : w5.heap[w2.heap.size]? = some (.cells #[.int .i64 2, .int .i64 (rp), .int .i64 r1, .int .i64 1, .int .i64 0, .string ⟨#[]⟩] 35 (0, 0)) := heapGrow (heapGrow hXc hg4 (by omega)) hg5 (by omega)
        have hA : w5.heap[w.heap.size]? = some (.cells zeroS 35 (0, 0)) := heapGrow (heapGrow hAc hg4 (by omega)) hg5 (by omega)
        unfold zeroS at hA
        have x0_ : w5.cell? ⟨w2.heap.size, 0, none⟩ = some (.int .i64 2) := by simp [World.cell?, hX]
        have x1_ : w5.cell? ⟨w2.heap.size, 1, none⟩ = some (.int .i64 (rp)) := by simp [World.cell?, hX]
        have x2_ : w5.cell? ⟨w2.heap.size, 2, none⟩ = some (.int .i64 r1) := by simp [World.cell?, hX]
        have x3_ : w5.cell? ⟨w2.heap.size, 3, none⟩ = some (.int .i64 1) := by simp [World.cell?, hX]
        have x4_ : w5.cell? ⟨w2.heap.size, 4, none⟩ = some (.int .i64 0) := by simp [World.cell?, hX]
        have x5_ : w5.cell? ⟨w2.heap.size, 5, none⟩ = some (.string ⟨#[]⟩) := by simp [World.cell?, hX]
        have a0_ : w5.cell? ⟨w.heap.size, 0, none⟩ = some (.int .i64 0) := by simp [World.cell?, hA]
        have f0_ : w5.frozen? ⟨w.heap.size, 0, none⟩ = false := by simp [World.frozen?, hA]
        have a1_ : w5.cell? ⟨w.heap.size, 1, none⟩ = some (.int .i64 0) := by simp [World.cell?, hA]
        have f1_ : w5.frozen? ⟨w.heap.size, 1, none⟩ = false := by simp [World.frozen?, hA]
        have a2_ : w5.cell? ⟨w.heap.size, 2, none⟩ = some (.int .i64 0) := by simp [World.cell?, hA]
        have f2_ : w5.frozen? ⟨w.heap.size, 2, none⟩ = false := by simp [World.frozen?, hA]
        have a3_ : w5.cell? ⟨w.heap.size, 3, none⟩ = some (.int .i64 0) := by simp [World.cell?, hA]
        have f3_ : w5.frozen? ⟨w.heap.size, 3, none⟩ = false := by simp [World.frozen?, hA]
        have a4_ : w5.cell? ⟨w.heap.size, 4, none⟩ = some (.int .i64 0) := by simp [World.cell?, hA]
        have f4_ : w5.frozen? ⟨w.heap.size, 4, none⟩ = false := by simp [World.frozen?, hA]
        have a5_ : w5.cell? ⟨w.heap.size, 5, none⟩ = some (.string ⟨#[]⟩) := by simp [World.cell?, hA]
        have f5_ : w5.frozen? ⟨w.heap.size, 5, none⟩ = false := by simp [World.frozen?, hA]
        have f3x : w5.frozen? ⟨w2.heap.size, 3, none⟩ = false := by simp [World.frozen?, hX]
        have HG : Hid (w.grownBy w5 (some b)) := grownTrans (grownTrans HGc.out hg4) hg5
        have HR5 := Lib.hid hR5
        have HX := Lib.hid hX
        have HA := Lib.hid hA
        have hlt1 : w.heap.size < w5.heap.size := (Array.getElem?_eq_some_iff.1 hA).1
        have hne1 : ¬ w2.heap.size = w.heap.size := by omega
        have hne2 : ¬ w.heap.size = w2.heap.size := by omega
        clear hg4 hg5 hR4 hR5 hX hA
        go_wp2_with fail
        exact bodyPost_ret (v := .agg (stepL (StepD.mk 2 (rp) r1 (r7 - 3) 0 ⟨#[]⟩)).toArray) (by simp [results, stepL, Tryd.results34, go_sem, *]) rfl ⟨_, rfl, may_made _ _ _ (by omega) (by omega) (.inr ⟨by omega, by omega, HM.out⟩) (by omega) (by omega), rfl, Row.set (Row.set (Row.set (Row.set (Row.set (Row.set (Row.set HR5.out (by show b < w2.heap.size; omega)) hbl) hbl) hbl) hbl) hbl) hbl, grownSet (grownSet (grownSet (grownSet (grownSet (grownSet (grownSet HG.out (by show w.heap.size ≤ w2.heap.size; omega)) (Nat.le_refl _)) (Nat.le_refl _)) (Nat.le_refl _)) (Nat.le_refl _)) (Nat.le_refl _)) (Nat.le_refl _)⟩
      · have h3b : (r3 == 0) = false := by simpa using h3
        have hX : w4.heap[w2.heap.size]? = some (.cells #[.int .i64 2, .int .i64 (rp), .int .i64 r1, .int .i64 1, .int .i64 0, .string ⟨#[]⟩] 35 (0, 0)) := heapGrow hXc hg4 (by omega)
        have hA : w4.heap[w.heap.size]? = some (.cells zeroS 35 (0, 0)) := heapGrow hAc hg4 (by omega)
        unfold zeroS at hA
        have x0_ : w4.cell? ⟨w2.heap.size, 0, none⟩ = some (.int .i64 2) := by simp [World.cell?, hX]
        have x1_ : w4.cell? ⟨w2.heap.size, 1, none⟩ = some (.int .i64 (rp)) := by simp [World.cell?, hX]
        have x2_ : w4.cell? ⟨w2.heap.size, 2, none⟩ = some (.int .i64 r1) := by simp [World.cell?, hX]
        have x3_ : w4.cell? ⟨w2.heap.size, 3, none⟩ = some (.int .i64 1) := by simp [World.cell?, hX]
        have x4_ : w4.cell? ⟨w2.heap.size, 4, none⟩ = some (.int .i64 0) := by simp [World.cell?, hX]
        have x5_ : w4.cell? ⟨w2.heap.size, 5, none⟩ = some (.string ⟨#[]⟩) := by simp [World.cell?, hX]
        have a0_ : w4.cell? ⟨w.heap.size, 0, none⟩ = some (.int .i64 0) := by simp [World.cell?, hA]
        have f0_ : w4.frozen? ⟨w.heap.size, 0, none⟩ = false := by simp [World.frozen?, hA]
        have a1_ : w4.cell? ⟨w.heap.size, 1, none⟩ = some (.int .i64 0) := by simp [World.cell?, hA]
        have f1_ : w4.frozen? ⟨w.heap.size, 1, none⟩ = false := by simp [World.frozen?, hA]
        have a2_ : w4.cell? ⟨w.heap.size, 2, none⟩ = some (.int .i64 0) := by simp [World.cell?, hA]
        have f2_ : w4.frozen? ⟨w.heap.size, 2, none⟩ = false := by simp [World.frozen?, hA]
        have a3_ : w4.cell? ⟨w.heap.size, 3, none⟩ = some (.int .i64 0) := by simp [World.cell?, hA]
        have f3_ : w4.frozen? ⟨w.heap.size, 3, none⟩ = false := by simp [World.frozen?, hA]
        have a4_ : w4.cell? ⟨w.heap.size, 4, none⟩ = some (.int .i64 0) := by simp [World.cell?, hA]
        have f4_ : w4.frozen? ⟨w.heap.size, 4, none⟩ = false := by simp [World.frozen?, hA]
        have a5_ : w4.cell? ⟨w.heap.size, 5, none⟩ = some (.string ⟨#[]⟩) := by simp [World.cell?, hA]
        have f5_ : w4.frozen? ⟨w.heap.size, 5, none⟩ = false := by simp [World.frozen?, hA]
        have f3x : w4.frozen? ⟨w2.heap.size, 3, none⟩ = false := by simp [World.frozen?, hX]
        have HG : Hid (w.grownBy w4 (some b)) := grownTrans HGc.out hg4
        have HR4 := Lib.hid hR4
        have HX := Lib.hid hX
        have HA := Lib.hid hA
        have hlt1 : w.heap.size < w4.heap.size := (Array.getElem?_eq_some_iff.1 hA).1
        have hne1 : ¬ w2.heap.size = w.heap.size := by omega
        have hne2 : ¬ w.heap.size = w2.heap.size := by omega
        clear hg4 hR4 hX hA
        go_wp2_with fail
        exact bodyPost_ret (v := .agg (stepL (StepD.mk 2 (rp) r1 1 0 ⟨#[]⟩)).toArray) (by simp [results, stepL, Tryd.results34, go_sem, *]) rfl ⟨_, rfl, may_made _ _ _ (by omega) (by omega) (.inr ⟨by omega, by omega, HM.out⟩) (by omega) (by omega), rfl, Row.set (Row.set (Row.set (Row.set (Row.set (Row.set HR4.out hbl) hbl) hbl) hbl) hbl) hbl, grownSet (grownSet (grownSet (grownSet (grownSet (grownSet HG.out (Nat.le_refl _)) (Nat.le_refl _)) (Nat.le_refl _)) (Nat.le_refl _)) (Nat.le_refl _)) (Nat.le_refl _)⟩
    · have h2b : (r2 == 0) = false := by simpa using h2
      have HRc := HR3
      have HGc := HG3
      have hXc := hXc3
      have hAc := hAc3
      clear hXc3 hAc3 hg3 hR3 tb0
      go_wp2_with fail
      refine (next_any b 3 _ HRc.out (by omega) (by omega)).mono ?_
      rintro e w4 ⟨r3, rfl, h30, h31, hR4, hg4⟩
      by_cases h3 : r3 = 0
      · subst h3
        go_wp2_with fail
        refine (next_any b 7 _ hR4 (by omega) (by omega)).mono ?_
        rintro e w5 ⟨r7, rfl, h70, h71, hR5, hg5⟩
        have hX : w5.heap[w2.heap.size]? = some (.cells #[.int .i64 2, .int .i64 (-1), .int .i64 r1, .int .i64 1, .int .i64 0, .string ⟨#[]⟩] 35 (0, 0)) := heapGrow (heapGrow hXc hg4 (by omega)) hg5 (by omega)
        have hA : w5.heap[w.heap.size]? = some (.cells zeroS 35 (0, 0)) := heapGrow (heapGrow hAc hg4 (by omega)) hg5 (by omega)
        unfold zeroS at hA
        have x0_ : w5.cell? ⟨w2.heap.size, 0, none⟩ = some (.int .i64 2) := by simp [World.cell?, hX]
        have x1_ : w5.cell? ⟨w2.heap.size, 1, none⟩ = some (.int .i64 (-1)) := by simp [World.cell?, hX]
        have x2_ : w5.cell? ⟨w2.heap.size, 2, none⟩ = some (.int .i64 r1) := by simp [World.cell?, hX]
        have x3_ : w5.cell? ⟨w2.heap.size, 3, none⟩ = some (.int .i64 1) := by simp [World.cell?, hX]
        have x4_ : w5.cell? ⟨w2.heap.size, 4, none⟩ = some (.int .i64 0) := by simp [World.cell?, hX]
        have x5_ : w5.cell? ⟨w2.heap.size, 5, none⟩ = some (.string ⟨#[]⟩) := by simp [World.cell?, hX]
        have a0_ : w5.cell? ⟨w.heap.size, 0, none⟩ = some (.int .i64 0) := by simp [World.cell?, hA]
        have f0_ : w5.frozen? ⟨w.heap.size, 0, none⟩ = false := by simp [World.frozen?, hA]
        have a1_ : w5.cell? ⟨w.heap.size, 1, none⟩ = some (.int .i64 0) := by simp [World.cell?, hA]
        have f1_ : w5.frozen? ⟨w.heap.size, 1, none⟩ = false := by simp [World.frozen?, hA]
        have a2_ : w5.cell? ⟨w.heap.size, 2, none⟩ = some (.int .i64 0) := by simp [World.cell?, hA]
        have f2_ : w5.frozen? ⟨w.heap.size, 2, none⟩ = false := by simp [World.frozen?, hA]
        have a3_ : w5.cell? ⟨w.heap.size, 3, none⟩ = some (.int .i64 0) := by simp [World.cell?, hA]
        have f3_ : w5.frozen? ⟨w.heap.size, 3, none⟩ = false := by simp [World.frozen?, hA]
        have a4_ : w5.cell? ⟨w.heap.size, 4, none⟩ = some (.int .i64 0) := by simp [World.cell?, hA]
        have f4_ : w5.frozen? ⟨w.heap.size, 4, none⟩ = false := by simp [World.frozen?, hA]
        have a5_ : w5.cell? ⟨w.heap.size, 5, none⟩ = some (.string ⟨#[]⟩) := by simp [World.cell?, hA]
        have f5_ : w5.frozen? ⟨w.heap.size, 5, none⟩ = false := by simp [World.frozen?, hA]
        have f3x : w5.frozen? ⟨w2.heap.size, 3, none⟩ = false := by simp [World.frozen?, hX]
        have HG : Hid (w.grownBy w5 (some b)) := grownTrans (grownTrans HGc.out hg4) hg5
        have HR5 := Lib.hid hR5
        have HX := Lib.hid hX
        have HA := Lib.hid hA
        have hlt1 : w.heap.size < w5.heap.size := (Array.getElem?_eq_some_iff.1 hA).1
        have hne1 : ¬ w2.heap.size = w.heap.size := by omega
        have hne2 : ¬ w.heap.size = w2.heap.size := by omega
        clear hg4 hg5 hR4 hR5 hX hA
        go_wp2_with fail
        exact bodyPost_ret (v := .agg (stepL (StepD.mk 2 (-1) r1 (r7 - 3) 0 ⟨#[]⟩)).toArray) (by simp [results, stepL, Tryd.results34, go_sem, *]) rfl ⟨_, rfl, may_made _ _ _ (by omega) (by omega) (.inl rfl) (by omega) (by omega), rfl, Row.set (Row.set (Row.set (Row.set (Row.set (Row.set (Row.set HR5.out (by show b < w2.heap.size; omega)) hbl) hbl) hbl) hbl) hbl) hbl, grownSet (grownSet (grownSet (grownSet (grownSet (grownSet (grownSet HG.out (by show w.heap.size ≤ w2.heap.size; omega)) (Nat.le_refl _)) (Nat.le_refl _)) (Nat.le_refl _)) (Nat.le_refl _)) (Nat.le_refl _)) (Nat.le_refl _)⟩
      · have h3b : (r3 == 0) = false := by simpa using h3
        have hX : w4.heap[w2.heap.size]? = some (.cells #[.int .i64 2, .int .i64 (-1), .int .i64 r1, .int .i64 1, .int .i64 0, .string ⟨#[]⟩] 35 (0, 0)) := heapGrow hXc hg4 (by omega)
        have hA : w4.heap[w.heap.size]? = some (.cells zeroS 35 (0, 0)) := heapGrow hAc hg4 (by omega)
        unfold zeroS at hA
        have x0_ : w4.cell? ⟨w2.heap.size, 0, none⟩ = some (.int .i64 2) := by simp [World.cell?, hX]
        have x1_ : w4.cell? ⟨w2.heap.size, 1, none⟩ = some (.int .i64 (-1)) := by simp [World.cell?, hX]
        have x2_ : w4.cell? ⟨w2.heap.size, 2, none⟩ = some (.int .i64 r1) := by simp [World.cell?, hX]
        have x3_ : w4.cell? ⟨w2.heap.size, 3, none⟩ = some (.int .i64 1) := by simp [World.cell?, hX]
        have x4_ : w4.cell? ⟨w2.heap.size, 4, none⟩ = some (.int .i64 0) := by simp [World.cell?, hX]
        have x5_ : w4.cell? ⟨w2.heap.size, 5, none⟩ = some (.string ⟨#[]⟩) := by simp [World.cell?, hX]
        have a0_ : w4.cell? ⟨w.heap.size, 0, none⟩ = some (.int .i64 0) := by simp [World.cell?, hA]
        have f0_ : w4.frozen? ⟨w.heap.size, 0, none⟩ = false := by simp [World.frozen?, hA]
        have a1_ : w4.cell? ⟨w.heap.size, 1, none⟩ = some (.int .i64 0) := by simp [World.cell?, hA]
        have f1_ : w4.frozen? ⟨w.heap.size, 1, none⟩ = false := by simp [World.frozen?, hA]
        have a2_ : w4.cell? ⟨w.heap.size, 2, none⟩ = some (.int .i64 0) := by simp [World.cell?, hA]
        have f2_ : w4.frozen? ⟨w.heap.size, 2, none⟩ = false := by simp [World.frozen?, hA]
        have a3_ : w4.cell? ⟨w.heap.size, 3, none⟩ = some (.int .i64 0) := by simp [World.cell?, hA]
        have f3_ : w4.frozen? ⟨w.heap.size, 3, none⟩ = false := by simp [World.frozen?, hA]
        have a4_ : w4.cell? ⟨w.heap.size, 4, none⟩ = some (.int .i64 0) := by simp [World.cell?, hA]
        have f4_ : w4.frozen? ⟨w.heap.size, 4, none⟩ = false := by simp [World.frozen?, hA]
        have a5_ : w4.cell? ⟨w.heap.size, 5, none⟩ = some (.string ⟨#[]⟩) := by simp [World.cell?, hA]
        have f5_ : w4.frozen? ⟨w.heap.size, 5, none⟩ = false := by simp [World.frozen?, hA]
        have f3x : w4.frozen? ⟨w2.heap.size, 3, none⟩ = false := by simp [World.frozen?, hX]
        have HG : Hid (w.grownBy w4 (some b)) := grownTrans HGc.out hg4
        have HR4 := Lib.hid hR4
        have HX := Lib.hid hX
        have HA := Lib.hid hA
        have hlt1 : w.heap.size < w4.heap.size := (Array.getElem?_eq_some_iff.1 hA).1
        have hne1 : ¬ w2.heap.size = w.heap.size := by omega
        have hne2 : ¬ w.heap.size = w2.heap.size := by omega
        clear hg4 hR4 hX hA
        go_wp2_with fail
        exact bodyPost_ret (v := .agg (stepL (StepD.mk 2 (-1) r1 1 0 ⟨#[]⟩)).toArray) (by simp [results, stepL, Tryd.results34, go_sem, *]) rfl ⟨_, rfl, may_made _ _ _ (by omega) (by omega) (.inl rfl) (by omega) (by omega), rfl, Row.set (Row.set (Row.set (Row.set (Row.set (Row.set HR4.out hbl) hbl) hbl) hbl) hbl) hbl, grownSet (grownSet (grownSet (grownSet (grownSet (grownSet HG.out (Nat.le_refl _)) (Nat.le_refl _)) (Nat.le_refl _)) (Nat.le_refl _)) (Nat.le_refl _)) (Nat.le_refl _)⟩
end Go.Proofs.YteiialpecaebdaaDoor
