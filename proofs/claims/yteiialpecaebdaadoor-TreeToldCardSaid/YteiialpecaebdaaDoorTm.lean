/-
  The reference's trees: tree.
-/
import Derived.Test.YteiialpecaebdaaDoorTx
import Derived.Test.YteiialpecaebdaaDoorPp
set_option linter.unusedVariables false
set_option linter.unusedSimpArgs false
namespace Go.Proofs.YteiialpecaebdaaDoor
open Go.RowKit
open Go.Proofs
open Tree

def bnd : Nat → Nat
  | 0 => 1
  | n + 1 => 2 * bnd n + 1
theorem bnd_pos (n : Nat) : 1 ≤ bnd n := by cases n <;> simp [bnd]
def Small (t : List StepD) : Prop := ∀ x ∈ t, x.text.size ≤ 3
theorem Small.one {x : StepD} (h : mayT x) : Small [x] := fun y hy => by
  obtain rfl := List.mem_singleton.1 hy
  exact h.2
theorem Small.app {a b : List StepD} (h : Small a) (k : Small b) : Small (a ++ b) := fun y hy => (List.mem_append.1 hy).elim (h y) (k y)
def TreeOk (b L : Nat) (w : World) (e : Ending) (w' : World) : Prop := ∃ (v : Value) (T : Tree), e = .returned v ∧ (T.Wf ∧ Small T.ser) ∧ T.ser.length ≤ bnd L ∧ Own w' w.heap.size v T.ser ∧ Row b w' ∧ w.grownBy w' (some b)
theorem stepArr (x : StepD) : (stepL x).toArray = #[.int .i64 x.op, .int .i64 x.pre, .int .i64 x.atom, .int .i64 x.n, .int .i64 x.num, .string x.text] := rfl
theorem stepL_one (x : StepD) : ∀ u ∈ stepL x, u.oneCell' = true := by
  intro u hx
  simp [stepL] at hx
  rcases hx with rfl | rfl | rfl | rfl | rfl | rfl <;> rfl
theorem lit_cells (w : World) (x : StepD) : ∀ j u, (stepL x)[j]? = some u → (w.alloc (.cells (stepL x).toArray 35)).cell? ((⟨w.heap.size, 0, none⟩ : Addr).add j) = some u := fun j u hu => by
  rw [addPlain]
  exact cellNew w _ _ j u (by simpa using hu)
theorem stepsL_snoc (t : List StepD) (x : StepD) : stepsL (t ++ [x]) = stepsL t ++ stepL x := by simp [stepsL]
theorem own_leaf (w : World) (B : Nat) (x : StepD) (hB : B ≤ w.heap.size) : Own (w.alloc (.cells (stepL x).toArray 35)) B (.slice (some ⟨w.heap.size, 0, none⟩) 1 1) [x] :=
  ⟨by simp [stepsL, stepL], .inr ⟨w.heap.size, 1, (stepL x).toArray, rfl, hB, heap_alloc_new w _, Nat.le_refl _, by unfold maxLen; omega, rfl, rfl⟩⟩
theorem own_weak {w : World} {B B' : Nat} {v : Value} {t : List StepD} (h : Own w B v t) (hB : B' ≤ B) : Own w B' v t := by
  refine ⟨h.1, ?_⟩
  rcases h.2 with h0 | ⟨g, cap, cur, hv, hb, r⟩
  · exact .inl h0
  · exact .inr ⟨g, cap, cur, hv, by omega, r⟩
theorem grownMix {w w1 w2 : World} {b : Nat} {r : Option Nat} (h : w.grownBy w1 (some b)) (k : w1.grownBy w2 r) (hr : ∀ k, r = some k → w.heap.size ≤ k) : w.grownBy w2 (some b) :=
  ⟨k.os.trans h.os, k.tape.trans h.tape, k.output.trans h.output, Nat.le_trans h.size k.size, fun i hi hn => (k.block i (Nat.lt_of_lt_of_le hi h.size) (by intro e; have := hr i e.symm; omega)).trans (h.block i hi hn)⟩
theorem Row.grown {b : Nat} {w w' : World} {r : Option Nat} (h : Row b w) (hg : w.grownBy w' r) (hr : ∀ k, r = some k → b < k) : Row b w' := by
  have hl := h.lt
  obtain ⟨a, n, c, k, h1, h2, h3, h4⟩ := h
  refine ⟨a, n, c, k, (hg.block b hl (by intro e; have := hr b e.symm; omega)).trans h1, h2, h3, ?_⟩
  rcases h4 with h4 | ⟨g, o, h5, h6, h7⟩
  · exact .inl h4
  · refine .inr ⟨g, o, h5, h6, fun i hi => ?_⟩
    obtain ⟨z, hz⟩ := h7 i hi
    refine ⟨z, ?_⟩
    have e := hg.block g (by omega) (by intro e; have := hr g e.symm; omega)
    simp only [World.cell?] at hz ⊢
    rw [e]; exact hz
theorem own_ge {w : World} {B : Nat} {v : Value} {t : List StepD} (h : Own w B v t) : ∀ k, v.ownBlock = some k → B ≤ k := fun k hk => (World.ownsRow.lt h k hk).1
theorem tree_leaf_ok {b L : Nat} {w w2 : World} (x : StepD) (h1 : mayT x) (h2 : takesI x.op = 0) (hR : Row b w2) (hg : w.grownBy w2 (some b)) :
    TreeOk b L w (.returned (.slice (some ⟨w2.heap.size, 0, none⟩) 1 1)) (w2.alloc (.cells (stepL x).toArray 35)) :=
  ⟨_, .leaf x, rfl, ⟨⟨h1.1, h2⟩, Small.one h1⟩, bnd_pos _, own_leaf w2 _ x hg.size, hR.kept (belA w2 _), grownTrans hg (grB (belA w2 _) b)⟩
theorem may_n (r : Int) (h : 0 ≤ r) : mayT ⟨1, -1, 0, 0, 1 + r, ⟨#[]⟩⟩ := by
  refine ⟨?_, by show (⟨#[]⟩ : ByteArray).size ≤ 3; decide⟩
  simp only [mayB, noText, noTextE, decide_eq_true (show 1 ≤ 1 + r by omega)]
  rfl
theorem may_a (s : ByteArray) (h : goodT s) : mayT ⟨7, -1, 0, 0, 0, s⟩ := by
  refine ⟨?_, h.2⟩
  rw [mayB_note _ _ _ _ _ _ (by omega), h.1]; rfl
theorem may_t (s : ByteArray) (h : goodT s) : mayT ⟨6, -1, 0, 0, 0, s⟩ := by
  refine ⟨?_, h.2⟩
  rw [mayB_note _ _ _ _ _ _ (by omega), h.1]; rfl
theorem may_p (op : Int) (h : op = 3 ∨ op = 4 ∨ op = 5) : mayT ⟨op, -1, 0, 0, 0, ⟨#[]⟩⟩ := by
  rcases h with rfl | rfl | rfl <;> (refine ⟨?_, by show (⟨#[]⟩ : ByteArray).size ≤ 3; decide⟩; simp only [mayB, noText, noTextE]; rfl)
theorem form_own {w : World} {B : Nat} {v : Value} {T : Tree} (h : Own w B v T.ser) : ∃ g c, v = .slice (some ⟨g, 0, none⟩) T.ser.length c := form_of h T.ser_pos
theorem bnd_le {L : Nat} (h : L ≤ 4) : bnd L ≤ 31 := by
  have : L = 0 ∨ L = 1 ∨ L = 2 ∨ L = 3 ∨ L = 4 := by omega
  rcases this with rfl | rfl | rfl | rfl | rfl <;> decide
theorem tree_one_ok {b L : Nat} {w w3 w4 : World} {v v' : Value} {T : Tree} (x : StepD) (h1 : mayT x) (h2 : takesI x.op = 1) (hT : T.Wf ∧ Small T.ser) (hl : T.ser.length ≤ bnd L) (ho : Own w3 w.heap.size v T.ser) (hR : Row b w3) (hg : w.grownBy w3 (some b)) (hb : b < w.heap.size)
    (ho' : w4.ownsRow w.heap.size 35 6 v' (T.ser.length + 1) (stepsL T.ser ++ stepL x)) (hg' : (w3.alloc (.cells (stepL x).toArray 35)).grownBy w4 v.ownBlock) :
    TreeOk b (L + 1) w (.returned v') w4 := by
  refine ⟨v', .one x T, rfl, ⟨⟨h1.1, h2, hT.1⟩, hT.2.app (Small.one h1)⟩, ?_, ?_, ?_, ?_⟩
  · simp only [ser, bnd, List.length_append, List.length_singleton]; omega
  · simp only [ser]
    show w4.ownsRow _ _ _ _ _ _
    rw [stepsL_snoc, List.length_append]
    exact ho'
  · exact (hR.kept (belA w3 _)).grown hg' (fun k hk => by have := own_ge ho k hk; omega)
  · exact grownMix (grownTrans hg (grB (belA w3 _) b)) hg' (fun k hk => own_ge ho k hk)
theorem tree_two_ok {b L : Nat} {w w3 w4 : World} {v v' : Value} {T T2 : Tree} (x : StepD) (h1 : mayT x) (h2 : takesI x.op = 2) (hT : T.Wf ∧ Small T.ser) (hl : T.ser.length ≤ bnd L) (hT2 : T2.Wf ∧ Small T2.ser) (hl2 : T2.ser.length ≤ bnd L) (ho : w3.ownsRow w.heap.size 35 6 v (T.ser.length + T2.ser.length) (stepsL T.ser ++ stepsL T2.ser)) (hR : Row b w3) (hg : w.grownBy w3 (some b)) (hb : b < w.heap.size)
    (ho' : w4.ownsRow w.heap.size 35 6 v' (T.ser.length + T2.ser.length + 1) (stepsL T.ser ++ (stepsL T2.ser ++ stepL x))) (hg' : (w3.alloc (.cells (stepL x).toArray 35)).grownBy w4 v.ownBlock) :
    TreeOk b (L + 1) w (.returned v') w4 := by
  have hge : ∀ k, v.ownBlock = some k → w.heap.size ≤ k := fun k hk => (World.ownsRow.lt ho k hk).1
  refine ⟨v', .two x T T2, rfl, ⟨⟨h1.1, h2, hT.1, hT2.1⟩, (hT.2.app hT2.2).app (Small.one h1)⟩, ?_, ?_, ?_, ?_⟩
  · simp only [ser, bnd, List.length_append, List.length_singleton]; omega
  · simp only [ser]
    show w4.ownsRow _ _ _ _ _ _
    rw [stepsL_snoc, stepsL_append, List.length_append, List.length_append, List.append_assoc]
    exact ho'
  · exact (hR.kept (belA w3 _)).grown hg' (fun k hk => by have := hge k hk; omega)
  · exact grownMix (grownTrans hg (grB (belA w3 _) b)) hg' hge
set_option maxHeartbeats 2000000 in
theorem tree_any (L : Nat) : ∀ (b : Nat) (w : World), Row b w → L ≤ 4 → Calls Tryd.prog 21 #[.pointer (some ⟨b, 0, none⟩), .int .i64 L] w (TreeOk b L w) := by
  induction L with
  | zero =>
    intro b w hR _
    go_enter Tryd.func21, Tryd.ntmps21
    go_wp2_with fail
    refine (next_any b 12 _ hR (by omega) (by omega)).mono ?_
    rintro e w1 ⟨r, rfl, h0, h1, hR1, hg1⟩
    go_wp2_with fail
    refine (sym_any b _ hR1).mono ?_
    rintro e w2 ⟨x, rfl, hx1, hx2, hR2, hg2⟩
    rw [stepArr]
    go_wp2_with fail
    go_ret
    exact tree_leaf_ok x hx1 hx2 hR2 (grownTrans hg1 hg2)
  | succ L ih =>
    intro b w hR hL
    have IH := Lib.hid ih
    clear ih
    have hr7 : ∀ r : Int, 0 ≤ r → r < 12 → r < 4 ∨ r = 4 ∨ r = 5 ∨ r = 6 ∨ r = 7 ∨ (r = 8 ∨ r = 9) ∨ (r = 10 ∨ r = 11) := fun r _ _ => by omega
    have hbL := bnd_le (show L ≤ 4 by omega)
    obtain ⟨i0, hi, hz0, hz1, hz2⟩ := info_parts info_S
    go_enter Tryd.func21, Tryd.ntmps21
    go_wp2_with fail
    refine (next_any b 12 _ hR (by omega) (by omega)).mono ?_
    rintro e w1 ⟨r, rfl, h0, h1, hR1, hg1⟩
    have hb0 : b < w.heap.size := hR.lt
    rcases hr7 r h0 h1 with h4 | rfl | rfl | rfl | rfl | h8 | h9
    · go_wp2_with fail
      refine (sym_any b _ hR1).mono ?_
      rintro e w2 ⟨x, rfl, hx1, hx2, hR2, hg2⟩
      rw [stepArr]
      go_wp2_with fail
      go_ret
      exact tree_leaf_ok x hx1 hx2 hR2 (grownTrans hg1 hg2)
    · go_wp2_with fail
      refine (next_any b 1200 _ hR1 (by omega) (by omega)).mono ?_
      rintro e w2 ⟨r2, rfl, h20, h21, hR2, hg2⟩
      go_wp2_with fail
      go_ret
      exact tree_leaf_ok ⟨1, -1, 0, 0, 1 + r2, ⟨#[]⟩⟩ (may_n _ h20) rfl hR2 (grownTrans hg1 hg2)
    · go_wp2_with fail
      refine (text_any b _ hR1).mono ?_
      rintro e w2 ⟨s, rfl, hs, hR2, hg2⟩
      go_wp2_with fail
      go_ret
      exact tree_leaf_ok ⟨7, -1, 0, 0, 0, s⟩ (may_a s hs) rfl hR2 (grownTrans hg1 hg2)
    · go_wp2_with fail
      refine (IH.out b w1 hR1 (by omega)).mono ?_
      rintro e w2 ⟨v, T, rfl, hT, hTl, hO, hR2, hg2⟩
      have HO := Lib.hid hO
      clear hO
      go_wp2_with fail
      refine (text_any b _ hR2).mono ?_
      rintro e w3 ⟨s, rfl, hs, hR3, hg3⟩
      have HO3 : Hid (Own w3 w.heap.size v T.ser) := own_weak (HO.out.kept hg3 (own_base HO.out (by have := hg1.size; omega))) hg1.size
      have HG3 : Hid (w.grownBy w3 (some b)) := grownTrans (grownTrans hg1 hg2) hg3
      have HR3 := Lib.hid hR3
      clear HO hg1 hg2 hg3 hR1 hR2 hR3
      obtain ⟨g, c, rfl⟩ := form_own HO3.out
      go_wp2_with (at_builtin; refine wpList_append_own _ rfl _ _ 27 rfl w.heap.size 35 i0 _ 6 56 Tryd.underlying27 hi hz0 hz1 hz2 rfl (by decide) _ T.ser.length (stepsL T.ser) rfl (HO3.out.alloc _) ⟨_, 0, none⟩ 1 1 (stepL ⟨6, -1, 0, 0, 0, s⟩) rfl rfl (lit_cells _ _) (stepL_one _) ?_ ?_ ?_ ?_)
      · unfold maxLen; omega
      · omega
      · have := HG3.out.size; simp; omega
      · intro v' w4 hown hgrow hnil
        go_wp2_with fail
        go_ret
        exact tree_one_ok ⟨6, -1, 0, 0, 0, s⟩ (may_t s hs) rfl hT hTl HO3.out HR3.out HG3.out hb0 hown hgrow
    · go_wp2_with fail
      refine (IH.out b w1 hR1 (by omega)).mono ?_
      rintro e w3 ⟨v, T, rfl, hT, hTl, hO, hR3, hg3⟩
      have HO3 : Hid (Own w3 w.heap.size v T.ser) := own_weak hO hg1.size
      have HG3 : Hid (w.grownBy w3 (some b)) := grownTrans hg1 hg3
      have HR3 := Lib.hid hR3
      clear hO hg1 hg3 hR1 hR3
      obtain ⟨g, c, rfl⟩ := form_own HO3.out
      go_wp2_with (at_builtin; refine wpList_append_own _ rfl _ _ 27 rfl w.heap.size 35 i0 _ 6 56 Tryd.underlying27 hi hz0 hz1 hz2 rfl (by decide) _ T.ser.length (stepsL T.ser) rfl (HO3.out.alloc _) ⟨_, 0, none⟩ 1 1 (stepL ⟨5, -1, 0, 0, 0, ⟨#[]⟩⟩) rfl rfl (lit_cells _ _) (stepL_one _) ?_ ?_ ?_ ?_)
      · unfold maxLen; omega
      · omega
      · have := HG3.out.size; simp; omega
      · intro v' w4 hown hgrow hnil
        go_wp2_with fail
        go_ret
        exact tree_one_ok ⟨5, -1, 0, 0, 0, ⟨#[]⟩⟩ (may_p 5 (by omega)) rfl hT hTl HO3.out HR3.out HG3.out hb0 hown hgrow
    · rcases h8 with rfl | rfl
      all_goals
        go_wp2_with fail
        refine (IH.out b w1 hR1 (by omega)).mono ?_
        rintro e w2 ⟨v, T, rfl, hT, hTl, hO, hR2, hg2⟩
        have HO := Lib.hid hO
        clear hO
        go_wp2_with fail
        refine (IH.out b w2 hR2 (by omega)).mono ?_
        rintro e w3 ⟨v2, T2, rfl, hT2, hTl2, hO2, hR3, hg3⟩
        have HO3 : Hid (Own w3 w.heap.size v T.ser) := own_weak (HO.out.kept hg3 (own_base HO.out (by have := hg1.size; omega))) hg1.size
        have HO2 : Hid (Own w3 w.heap.size v2 T2.ser) := own_weak hO2 (Nat.le_trans hg1.size hg2.size)
        have HG3 : Hid (w.grownBy w3 (some b)) := grownTrans (grownTrans hg1 hg2) hg3
        have HR3 := Lib.hid hR3
        clear HO hO2 hg1 hg2 hg3 hR1 hR2 hR3
        obtain ⟨g, c, rfl⟩ := form_own HO3.out
        obtain ⟨g2, c2, rfl⟩ := form_own HO2.out
        go_wp2_with (at_builtin; refine wpList_append_own _ rfl _ _ 27 rfl w.heap.size 35 i0 _ 6 56 Tryd.underlying27 hi hz0 hz1 hz2 rfl (by decide) _ T.ser.length (stepsL T.ser) rfl HO3.out ⟨g2, 0, none⟩ T2.ser.length c2 (stepsL T2.ser) rfl (stepsL_length _) (HO2.out.cells rfl) (stepsL_one _) ?_ ?_ ?_ ?_)
        · unfold maxLen; omega
        · omega
        · exact HG3.out.size
        · intro v' w4 hown hgrow hnil
          have HG4 : Hid (w.grownBy w4 (some b)) := grownMix HG3.out hgrow (fun k hk => own_ge HO3.out k hk)
          have HR4 : Hid (Row b w4) := HR3.out.grown hgrow (fun k hk => by have := own_ge HO3.out k hk; omega)
          obtain ⟨g4, c4, rfl⟩ := form_of hown (by have := T.ser_pos; omega)
          have HO4 := Lib.hid hown
          clear hown hgrow hnil
          go_wp2_with (at_builtin; refine wpList_append_own _ rfl _ _ 27 rfl w.heap.size 35 i0 _ 6 56 Tryd.underlying27 hi hz0 hz1 hz2 rfl (by decide) _ (T.ser.length + T2.ser.length) (stepsL T.ser ++ stepsL T2.ser) rfl (HO4.out.alloc _) ⟨_, 0, none⟩ 1 1 (stepL ⟨3, -1, 0, 0, 0, ⟨#[]⟩⟩) rfl rfl (lit_cells _ _) (stepL_one _) ?_ ?_ ?_ ?_)
          · unfold maxLen; omega
          · omega
          · have := HG4.out.size; simp; omega
          · intro v5 w5 hown hgrow hnil
            go_wp2_with fail
            go_ret
            exact tree_two_ok ⟨3, -1, 0, 0, 0, ⟨#[]⟩⟩ (may_p 3 (by omega)) rfl hT hTl hT2 hTl2 HO4.out HR4.out HG4.out hb0 hown hgrow
    · rcases h9 with rfl | rfl
      all_goals
        go_wp2_with fail
        refine (IH.out b w1 hR1 (by omega)).mono ?_
        rintro e w2 ⟨v, T, rfl, hT, hTl, hO, hR2, hg2⟩
        have HO := Lib.hid hO
        clear hO
        go_wp2_with fail
        refine (IH.out b w2 hR2 (by omega)).mono ?_
        rintro e w3 ⟨v2, T2, rfl, hT2, hTl2, hO2, hR3, hg3⟩
        have HO3 : Hid (Own w3 w.heap.size v T.ser) := own_weak (HO.out.kept hg3 (own_base HO.out (by have := hg1.size; omega))) hg1.size
        have HO2 : Hid (Own w3 w.heap.size v2 T2.ser) := own_weak hO2 (Nat.le_trans hg1.size hg2.size)
        have HG3 : Hid (w.grownBy w3 (some b)) := grownTrans (grownTrans hg1 hg2) hg3
        have HR3 := Lib.hid hR3
        clear HO hO2 hg1 hg2 hg3 hR1 hR2 hR3
        obtain ⟨g, c, rfl⟩ := form_own HO3.out
        obtain ⟨g2, c2, rfl⟩ := form_own HO2.out
        go_wp2_with (at_builtin; refine wpList_append_own _ rfl _ _ 27 rfl w.heap.size 35 i0 _ 6 56 Tryd.underlying27 hi hz0 hz1 hz2 rfl (by decide) _ T.ser.length (stepsL T.ser) rfl HO3.out ⟨g2, 0, none⟩ T2.ser.length c2 (stepsL T2.ser) rfl (stepsL_length _) (HO2.out.cells rfl) (stepsL_one _) ?_ ?_ ?_ ?_)
        · unfold maxLen; omega
        · omega
        · exact HG3.out.size
        · intro v' w4 hown hgrow hnil
          have HG4 : Hid (w.grownBy w4 (some b)) := grownMix HG3.out hgrow (fun k hk => own_ge HO3.out k hk)
          have HR4 : Hid (Row b w4) := HR3.out.grown hgrow (fun k hk => by have := own_ge HO3.out k hk; omega)
          obtain ⟨g4, c4, rfl⟩ := form_of hown (by have := T.ser_pos; omega)
          have HO4 := Lib.hid hown
          clear hown hgrow hnil
          go_wp2_with (at_builtin; refine wpList_append_own _ rfl _ _ 27 rfl w.heap.size 35 i0 _ 6 56 Tryd.underlying27 hi hz0 hz1 hz2 rfl (by decide) _ (T.ser.length + T2.ser.length) (stepsL T.ser ++ stepsL T2.ser) rfl (HO4.out.alloc _) ⟨_, 0, none⟩ 1 1 (stepL ⟨4, -1, 0, 0, 0, ⟨#[]⟩⟩) rfl rfl (lit_cells _ _) (stepL_one _) ?_ ?_ ?_ ?_)
          · unfold maxLen; omega
          · omega
          · have := HG4.out.size; simp; omega
          · intro v5 w5 hown hgrow hnil
            go_wp2_with fail
            go_ret
            exact tree_two_ok ⟨4, -1, 0, 0, 0, ⟨#[]⟩⟩ (may_p 4 (by omega)) rfl hT hTl hT2 hTl2 HO4.out HR4.out HG4.out hb0 hown hgrow
/-! Made. -/
def MadeOk (w : World) (e : Ending) (w' : World) : Prop := ∃ (v : Value) (T : Tree), e = .returned v ∧ (T.Wf ∧ Small T.ser) ∧ T.ser.length ≤ 31 ∧ Own w' w.heap.size v T.ser ∧ Below w.heap.size w w'
/-- What comes in: a slice of numbers. -/
def IntsIn (w : World) (a : Option Addr) (n c : Nat) : Prop := n ≤ maxLen ∧ n ≤ c ∧ (n = 0 ∨ ∃ g o, a = some ⟨g, o, none⟩ ∧ g < w.heap.size ∧ ∀ i, i < n → ∃ z : Int, w.cell? ⟨g, o + i, none⟩ = some (.int .i64 z))
theorem made_row {w : World} {a : Option Addr} {n c m : Nat} (h : IntsIn w a n c) (hm : m ≤ n) (hm2 : m ≤ 120) : Row w.heap.size (w.alloc (.cells #[.slice a m c, .int .i64 0] 52)) := by
  refine ⟨a, m, c, 0, heap_alloc_new w _, Nat.zero_le _, by omega, ?_⟩
  rcases h.2.2 with h | ⟨g, o, h1, h2, h3⟩
  · exact .inl (by omega)
  · refine .inr ⟨g, o, h1, h2, fun i hi => ?_⟩
    obtain ⟨z, hz⟩ := h3 i (by omega)
    exact ⟨z, cellAlloc _ hz⟩
theorem made_end {w w1 : World} {v : Value} {t : List StepD} {o : Obj} (h : (w.alloc o).grownBy w1 (some w.heap.size)) (ho : Own w1 (w.alloc o).heap.size v t) : Own w1 w.heap.size v t ∧ Below w.heap.size w w1 := by
  refine ⟨own_weak ho (by simp), ?_⟩
  exact ⟨h.os.trans rfl, h.tape.trans rfl, h.output.trans rfl, by have := h.size; simp at this; omega, fun k hk => (h.block k (by simp; omega) (by intro e; have := Option.some.inj e; omega)).trans ((belA w o).block k hk)⟩
set_option maxHeartbeats 1000000 in
theorem made_any (a : Option Addr) (n c : Nat) (w : World) (h : IntsIn w a n c) : Calls Tryd.prog 10 #[.slice a n c] w (MadeOk w) := by
  have hn := h.1
  have hc := h.2.1
  unfold maxLen at hn
  have HI := Lib.hid h
  clear h
  by_cases hb : 120 < n
  · have e : (120 : Nat) ≤ c := by omega
    go_enter Tryd.func10, Tryd.ntmps10
    go_wp2_with fail
    refine (tree_any 4 _ _ (made_row HI.out (m := 120) (by omega) (by omega)) (by omega)).mono ?_
    rintro e w1 ⟨v, T, rfl, hT, hl, hO, hR, hg⟩
    go_wp2_with fail
    go_ret
    have := made_end hg hO
    exact ⟨v, T, rfl, hT, hl, this.1, this.2⟩
  · go_enter Tryd.func10, Tryd.ntmps10
    go_wp2_with fail
    refine (tree_any 4 _ _ (made_row HI.out (m := n) (by omega) (by omega)) (by omega)).mono ?_
    rintro e w1 ⟨v, T, rfl, hT, hl, hO, hR, hg⟩
    go_wp2_with fail
    go_ret
    have := made_end hg hO
    exact ⟨v, T, rfl, hT, hl, this.1, this.2⟩
end Go.Proofs.YteiialpecaebdaaDoor
