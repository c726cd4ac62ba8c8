/-
  The law TreeTold: its walk.
-/
import Derived.Test.YteiialpecaebdaaDoorIk
import Derived.Test.YteiialpecaebdaaDoorPm
import Derived.Stop.RegionWithIn
import Derived.Sort.LoopGhostIn
import Derived.Test.YteiialpecaebdaaDoorQr
import Derived.Test.YteiialpecaebdaaDoorTs
set_option linter.unusedVariables false
set_option linter.unusedSimpArgs false
namespace Go.Proofs.YteiialpecaebdaaDoor
open Go.RowKit
open Go.Proofs
open Go.Shelf
open Tree
attribute [local go_sem] Oper.semAt_some

/-- The box of t, as it is made, lies as it lay behind what keeps all that was there. -/
def BoxAt (w : World) (b : Nat) : Prop := w.cell? ⟨b, 0, none⟩ = some (.slice none 0 0) ∧ w.frozen? ⟨b, 0, none⟩ = false ∧ b < w.heap.size
theorem box_new (w : World) : BoxAt (w.alloc (.cells #[.slice none 0 0] 27)) w.heap.size := ⟨cellNew w _ _ 0 _ rfl, (Boxed.new w 27 (.slice none 0 0)).frozen, by simp⟩
theorem box_below (b : Nat) {w w2 : World} (h : Below w.heap.size w w2) (k : BoxAt w b) : w2.cell? ⟨b, 0, none⟩ = some (.slice none 0 0) ∧ w2.frozen? ⟨b, 0, none⟩ = false ∧ b < w2.heap.size :=
  ⟨cell_below k.1 h, (h.frozen (p := ⟨b, 0, none⟩) k.2.2).trans k.2.1, Nat.lt_of_lt_of_le k.2.2 h.size⟩
/-- The box written: the steps lie in another block. -/
theorem told_end {w Y : World} {B bt : Nat} {a3 : Option Addr} {c3 : Nat} {t3 : List StepD} {v0 : Value} (v : Value) (hO : Own Y B (.slice a3 t3.length c3) t3) (hbt : bt < B) (hc : Y.cell? ⟨bt, 0, none⟩ = some v0) (hl : bt < Y.heap.size) (hb : Below w.heap.size w Y) (hw : w.heap.size ≤ bt) :
    (Y.setCell ⟨bt, 0, none⟩ v).cell? ⟨bt, 0, none⟩ = some v ∧ bt < (Y.setCell ⟨bt, 0, none⟩ v).heap.size ∧ SlAt (Y.setCell ⟨bt, 0, none⟩ v) a3 t3 ∧ Below w.heap.size w (Y.setCell ⟨bt, 0, none⟩ v) := by
  refine ⟨World.cell?_setCell_same' _ _ _ (by rw [hc]; rfl), Nat.lt_of_lt_of_le hl (grownBy_setCell' Y bt v).size, ?_, hb.setCell (p := ⟨bt, 0, none⟩) hw _⟩
  obtain ⟨a', c', e, hS, _⟩ := own_sl hO
  simp only [Value.slice.injEq] at e
  obtain ⟨rfl, -, rfl⟩ := e
  rcases hS with h | ⟨g, o, rfl, hr⟩
  · exact .inl h
  · have hg : B ≤ g := own_ge hO g rfl
    exact .inr ⟨g, o, rfl, fun j u hj => (World.cell?_setCell_far _ _ _ _ (by show bt ≠ g; omega)).trans (hr j u hj)⟩
/-- The place behind the last one told. -/
def lastp (pre : List (Nat × StepD)) : Nat := match pre.getLast? with | none => 0 | some x => x.1 + 1
theorem lastp_snoc (pre : List (Nat × StepD)) (x : Nat × StepD) : lastp (pre ++ [x]) = x.1 + 1 := by simp [lastp]
theorem lastp_le (ks : List Int) (t : List StepD) : ∀ k, lastp (selS ks t k) ≤ k := by
  intro k
  induction k with
  | zero => simp [selS, lastp]
  | succ k ih =>
    rw [selS_succ]
    split
    · rw [lastp_snoc]; exact Nat.le_refl _
    · rw [List.append_nil]; omega
theorem told_gap (ks : List Int) (t : List StepD) : ∀ k j, lastp (selS ks t k) ≤ j → j < k → (ks.any fun o => (t[j]?.getD default).op == o) = false := by
  intro k
  induction k with
  | zero => intro j _ h; omega
  | succ k ih =>
    intro j h1 h2
    rw [selS_succ] at h1
    by_cases hk : (ks.any fun o => (t[k]?.getD default).op == o) = true
    · rw [if_pos hk, lastp_snoc] at h1
      have : k + 1 ≤ j := h1
      omega
    · rw [if_neg hk, List.append_nil] at h1
      by_cases e : j = k
      · subst e; exact eq_false_of_ne_true hk
      · exact ih j h1 (by omega)
theorem grown_refl (w : World) (row : Option Nat) : w.grownBy w row := ⟨rfl, rfl, rfl, Nat.le_refl _, fun _ _ _ => rfl⟩
theorem grown_keepC {bx : List Nat} {A B : World} {r : Nat} (h : A.grownBy B (some r)) (hr : r ∈ bx) : KeepC bx A B :=
  ⟨h.size, fun i o hi ho _ => (h.block i (Array.getElem?_eq_some_iff.1 ho).1 (fun e => hi (by rw [Option.some.inj e]; exact hr))).trans ho⟩
theorem grown_cell {A B : World} {r k o : Nat} {v : Value} (h : A.grownBy B (some r)) (hk : k ≠ r) (hv : A.cell? ⟨k, o, none⟩ = some v) : B.cell? ⟨k, o, none⟩ = some v :=
  (h.cell_far ⟨k, o, none⟩ (World.block_lt_of_cell? A ⟨k, o, none⟩ hv) (fun e => hk (Option.some.inj e))).trans hv
theorem any2 {z : Int} (h : (([2] : List Int).any fun o => z == o) = false) : z ≠ 2 := by simpa using h
theorem any2t {z : Int} (h : (([2] : List Int).any fun o => z == o) = true) : z = 2 := by simpa using h
theorem keep2 {B k o : Nat} {A C : World} {v : Value} (h : A.cell? ⟨k, o, none⟩ = some v ∧ A.frozen? ⟨k, o, none⟩ = false) (hb : Below B A C) (hk : k < B) : C.cell? ⟨k, o, none⟩ = some v ∧ C.frozen? ⟨k, o, none⟩ = false := ⟨(hb.cell (p := ⟨k, o, none⟩) hk).trans h.1, (hb.frozen (p := ⟨k, o, none⟩) hk).trans h.2⟩
theorem bel3 {b B : Nat} {w A C : World} (h : Below b w A) (k : Below B A C) (hb : b ≤ B) : Below b w C := h.trans (k.mono hb)
theorem cell_belowT {B k o : Nat} {A C : World} {v : Value} (h : A.cell? ⟨k, o, none⟩ = some v) (hb : Below B A C) (hk : k < B) : C.cell? ⟨k, o, none⟩ = some v := (hb.cell (p := ⟨k, o, none⟩) hk).trans h
theorem selT_succ (t : List StepD) (k : Nat) : selT t (k + 1) = selT t k ++ (if ([6, 7] : List Int).any (fun o => (t[k]?.getD default).op == o) then [(t[k]?.getD default).text] else []) := by
  unfold selT
  rw [selS_succ, List.map_append]
  congr 1
  split <;> simp [txtOf]
theorem selT_le (t : List StepD) : ∀ k, (selT t k).length ≤ k := by
  intro k
  induction k with
  | zero => simp [selT, selS]
  | succ k ih =>
    rw [selT_succ, List.length_append]
    split <;> simp <;> omega
/-- A box of a slice of strings and what it holds. -/
structure TextsAt (w : World) (T : Nat) (v : Value) (l : List ByteArray) : Prop where
  cell : w.cell? ⟨T, 0, none⟩ = some v
  frz : w.frozen? ⟨T, 0, none⟩ = false
  own : OwnS w (T + 1) v l
  lt : T < w.heap.size
theorem TextsAt.new (w : World) : TextsAt (w.alloc (.cells #[.slice none 0 0] 44)) w.heap.size (.slice none 0 0) [] :=
  ⟨cellNew w _ _ 0 _ rfl, (Boxed.new w 44 (.slice none 0 0)).frozen, ownS_nil _ _, by simp⟩
theorem TextsAt.far {w w' : World} {T : Nat} {v : Value} {l : List ByteArray} (h : TextsAt w T v l) (hg : w.grownBy w' v.ownBlock) : w'.cell? ⟨T, 0, none⟩ = some v ∧ w'.frozen? ⟨T, 0, none⟩ = false ∧ T < w'.heap.size := by
  have hne : ∀ k, v.ownBlock = some k → k ≠ T := fun k hk => by have := (World.ownsRow.lt h.own k hk).1; omega
  refine ⟨(hg.cell_far ⟨T, 0, none⟩ h.lt (fun e => hne _ e.symm rfl)).trans h.cell, (hg.frozen_far ⟨T, 0, none⟩ h.lt (fun e => hne _ e.symm rfl)).trans h.frz, Nat.lt_of_lt_of_le h.lt hg.size⟩
theorem TextsAt.stored {w : World} {T : Nat} {v v' : Value} {l : List ByteArray} (hO : OwnS w (T + 1) v' l) (hc : w.cell? ⟨T, 0, none⟩ = some v) (hf : w.frozen? ⟨T, 0, none⟩ = false) (hl : T < w.heap.size) : TextsAt (w.setCell ⟨T, 0, none⟩ v') T v' l :=
  ⟨World.cell?_setCell_same' _ _ _ (by rw [hc]; rfl), by rw [World.frozen?_setCell]; exact hf, hO.grown (grownBy_setCell' w T v') (by omega), Nat.lt_of_lt_of_le hl (grownBy_setCell' w T v').size⟩
theorem TextsAt.alloc {w : World} {T : Nat} {v : Value} {l : List ByteArray} (h : TextsAt w T v l) (c : Array Value) (t : TypeId) : TextsAt (w.alloc (.cells c t)) T v l :=
  ⟨cellAlloc _ h.cell, by rw [frozen?_alloc_cells]; exact h.frz, World.ownsRow.alloc h.own _, by have := h.lt; simp; omega⟩
theorem TextsAt.below {U w w' : World} {T : Nat} {v : Value} {l : List ByteArray} (h : TextsAt w T v l) (hb : Below T U w) (hg : w.grownBy w' v.ownBlock) : Below T U w' :=
  hb.grown hg (Nat.le_of_lt h.lt) (fun q hq => by have := (World.ownsRow.lt h.own q hq).1; omega)
theorem selT_prefix (t : List StepD) {j k : Nat} (h : j ≤ k) : selT t j <+: selT t k := (selS_prefix [6, 7] t h).map _
theorem okT.at {t : List StepD} {pre : List ByteArray} {x : ByteArray} (h : okT t pre x) : pre.length < (selT t t.length).length ∧ (selT t t.length)[pre.length]?.getD ⟨#[]⟩ = x := by
  obtain ⟨k, h1, rfl, rfl, h4⟩ := h
  have h5 := selT_prefix t (show k + 1 ≤ t.length by omega)
  rw [selT_succ, if_pos h4] at h5
  obtain ⟨r, hr⟩ := h5
  rw [← hr]
  simp
theorem results_cellB {fn : Func} {p : Tmp} {b : Bool} {a : Addr} (h : fn.results = #[.cell p 4]) (tmps : Array Value) (w : World) (hp : tmps.getD p undef = .pointer (some a)) (hc : w.cell? a = some (.bool b)) :
    (results fn tmps).run Tryd.prog w = .ok (.bool b) w := by
  have h1 : (loadVar 4 a).run Tryd.prog w = .ok (.bool b) w := by
    simp [loadVar, go_sem, hc]
  have hp2 : tmps[p]?.getD undef = .pointer (some a) := by simpa using hp
  simp [results, h, hp2, asAddr, h1, Result.andThen]
set_option maxRecDepth 100000 in
set_option maxHeartbeats 4000000 in
theorem told_in (a : Option Addr) (n c : Nat) (h1 p1 n1 : Int) (t1 : ByteArray) (many : Int) (w : World) (hL : Laid w) (hI : IntsIn w a n c) (hx1 : t1.size ≤ maxLen) :
    CallsIn Fence.wide 30 Tryd.prog 7 #[.slice a n c, turnV h1 p1 n1 t1, .int .i64 many] w (TrueB w) := by
  have HL := Lib.hid hL
  have HI := Lib.hid hI
  clear hL hI
  refine callsIn_of_wp_marks Tryd.func7 rfl trivial ?_ rfl
  simp only [Tryd.ntmps7, List.size_toArray, List.length_cons, List.length_nil, Nat.reduceAdd, Nat.reduceSub, Array.replicate_succ, Array.replicate_zero, List.push_toArray, List.append_toArray, List.nil_append, List.cons_append]
  gi_wp2
  refine ⟨trivial, ?_⟩
  have HB0 : Hid (Below w.heap.size w ((w.alloc (.cells #[.int .i64 h1, .int .i64 p1, .int .i64 n1, .string t1] 24)).alloc (.cells #[.bool false] 4))) := bel2 (belA w _) (belA _ _)
  refine (callsIn_wide.2 (awake_any _ (HL.out.below HB0.out))).mono ?_
  rintro e w1 ⟨rfl, hb1⟩
  have HB1 : Hid (Below w.heap.size w w1.drew) := (bel2 HB0.out hb1).drew
  have q : ∀ (j : Nat) (v : Value), (#[.int .i64 h1, .int .i64 p1, .int .i64 n1, .string t1] : Array Value)[j]? = some v → w1.cell? ⟨w.heap.size, j, none⟩ = some v := fun j v h => cell_below (cellAlloc _ (cellNew w _ _ j v h)) hb1
  obtain ⟨q0, q1, q2, q3⟩ := four q
  have HQ := Lib.hid q
  have HWS : Hid (w.heap.size + 2 ≤ w1.heap.size) := by have h5 := hb1.size; simp at h5; show _ ≤ _; omega
  have q6 : w1.cell? ⟨w.heap.size + 1, 0, none⟩ = some (.bool false) := cell_below (cellNew3 (by simp) rfl) hb1
  have f6 : w1.frozen? ⟨w.heap.size + 1, 0, none⟩ = false := (hb1.frozen (p := ⟨w.heap.size + 1, 0, none⟩) (by simp)).trans (by have h5 := (Boxed.new (w.alloc (.cells #[.int .i64 h1, .int .i64 p1, .int .i64 n1, .string t1] 24)) 4 (.bool false)).frozen; rw [World.size_alloc] at h5; exact h5)
  have HQ6 := Lib.hid (And.intro q6 f6)
  clear q hb1 q6 f6
  gi_wp2
  refine wpIn_mono (Q := fun e a' Y => match e with | .normal => ∃ (bt : Nat) (s22 : Value) (sa : Option Addr) (cap : Nat) (t : List StepD), a' = { tmps := #[.slice a n c, turnV h1 p1 n1 t1, .int .i64 many, undef, .pointer (some ⟨w.heap.size, 0, none⟩), undef, .pointer (some ⟨w.heap.size + 1, 0, none⟩), .bool true, .pointer (some ⟨bt, 0, none⟩), undef, undef, undef, undef, undef, undef, undef, undef, undef, undef, undef, .bool true, .slice a n c, s22, turnV h1 p1 n1 t1, .slice sa t.length cap, undef, undef, undef, undef, undef, undef, undef, undef, undef, undef, undef, undef, undef, undef, undef, undef, undef, undef, undef, undef, undef, undef, undef, undef, undef, undef, undef, undef, undef, undef, undef, undef, undef, undef, undef, undef, undef, undef, undef, undef, undef, undef, undef, undef, undef, undef, undef, undef, undef, undef, undef, undef, undef, undef, undef, undef, undef, undef, undef, undef, undef, undef, undef, undef, undef, undef, undef, undef, undef, undef, undef, undef, undef, undef, undef, undef, undef, undef, undef, undef, undef, undef, undef, undef, undef, undef, undef, undef, undef, undef, undef, undef, undef, undef, undef, undef, undef, undef, undef, undef, undef, undef, undef, undef, undef, undef, undef, undef, undef, undef, undef, undef, undef, undef, undef, undef, undef, undef, undef, undef, undef, undef, undef, undef, undef, undef, undef, undef, undef, undef, undef, undef, undef, undef], defers := [] } ∧ Y.cell? ⟨bt, 0, none⟩ = some (.slice sa t.length cap) ∧ w.heap.size + 2 ≤ bt ∧ bt < Y.heap.size ∧ SlAt Y sa t ∧ Texts t ∧ t.length ≤ 40 ∧ Below w1.drew.heap.size w1.drew Y | _ => False) ?region ?rest
  case region =>
    have HW2 : Hid (w.heap.size + 2 ≤ w1.heap.size) := HWS.out
    obtain ⟨q50, q51, q52, q53⟩ := four (fun j v h => cellAlloc (.cells #[.slice none 0 0] 27) (HQ.out j v h))
    gi_region_with (first
      | (refine ⟨trivial, ?_⟩; gi_at_call 11; refine (callsIn_wide.2 (spoilt_any a2 c2 h1 p1 n1 t1 T2.ser _ hs2.texts (by first | exact hS2 | exact hS2.below (belA _ _)) (by omega) hc2 hx1)).mono ?_; rintro e u4 ⟨v, t3, rfl, hO3, hX3, hl3, hb4⟩; obtain ⟨a3, c3, rfl, hS3, hc3⟩ := own_sl hO3; (first | (have hbx := box_below (w1.heap.size) hb4 ⟨bA, bB, bC⟩; obtain ⟨dA, dB, dC⟩ := hbx) | (have hbx := box_below (u3.heap.size) hb4 (box_new u3); obtain ⟨dA, dB, dC⟩ := hbx) | skip))
      | (refine ⟨trivial, ?_⟩; gi_at_call 10; refine (callsIn_wide.2 (made_any a n c _ (HI.out.below (by first | exact HB1.out | exact bel2 HB1.out (belA _ _))))).mono ?_; rintro e u3 ⟨v, T2, rfl, ⟨hT2, hs2⟩, hl2, hO2, hb3⟩; obtain ⟨a2, c2, rfl, hS2, hc2⟩ := own_sl hO2; have q' : ∀ (j : Nat) (v : Value), (#[.int .i64 h1, .int .i64 p1, .int .i64 n1, .string t1] : Array Value)[j]? = some v → u3.cell? ⟨w.heap.size, j, none⟩ = some v := (fun j v h => cell_below (by first | exact HQ.out j v h | exact cellAlloc _ (HQ.out j v h)) hb3); obtain ⟨q30, q31, q32, q33⟩ := four q'; (first | (have hbx := box_below (w1.heap.size) hb3 (box_new w1.drew); obtain ⟨bA, bB, bC⟩ := hbx) | (have hbx := box_below (w1.heap.size) hb3 (box_new w1); obtain ⟨bA, bB, bC⟩ := hbx) | skip); obtain ⟨q40, q41, q42, q43⟩ := four (fun j v h => cellAlloc (.cells #[.slice none 0 0] 27) (q' j v h)))
      | fail "no arm")
    all_goals
      have hb3' := hb3.size
      have hb4' := hb4.size
      have hw1 := HB1.out.size
      have hwd : w1.drew.heap.size = w1.heap.size := rfl
      have hw0 : w.heap.size + 2 ≤ w1.heap.size := HW2.out
      have hbel : Below w1.drew.heap.size w1.drew u4 := by first | exact bel2 hb3 hb4 | exact bel2 (bel2 (belA _ _) hb3) hb4 | exact bel2 (bel2 hb3 (belA _ _)) hb4
      first
        | (obtain ⟨f1, f2, f3, f4⟩ := told_end (.slice a3 t3.length c3) hO3 (by first | omega | (simp at hb4' ⊢; first | done | omega)) dA dC hbel (by first | omega | (simp at hb3' ⊢; first | done | omega)); exact ⟨_, _, a3, c3, t3, rfl, f1, by first | omega | (simp at hb3' ⊢; first | done | omega), f2, f3, hX3, by omega, f4⟩)
        | exact ⟨_, _, a3, c3, t3, rfl, cellNew3 rfl rfl, by omega, by simp, hS3.below (belA _ _), hX3, by omega, bel2 hbel (belA _ _)⟩
  case rest =>
    rintro e a' Y hq
    cases e with
    | normal =>
      obtain ⟨bt, s22, sa, cap, t, rfl, hcell, hbt, hbt2, hS, hX, hl, hBY⟩ := hq
      have hB : Below w.heap.size w Y := bel2 HB1.out hBY
      have HQ6Y : Hid (Y.cell? ⟨w.heap.size + 1, 0, none⟩ = some (.bool false) ∧ Y.frozen? ⟨w.heap.size + 1, 0, none⟩ = false) := keep2 (A := w1.drew) HQ6.out hBY (by have h5 := HWS.out; show w.heap.size + 1 < w1.heap.size; omega)
      clear hBY
      have HCELL := Lib.hid hcell
      gi_wp2
      refine ⟨trivial, ?_⟩
      refine (symbols_in Fence.wide 29 trivial trivial rfl (by omega) _ _ _ _).mono ?_
      rintro e w3 ⟨rfl, rfl⟩
      have hc3 := cellAlloc (.cells #[.slice (some ⟨Y.heap.size, 0, none⟩) 1 1] 22) (cellAlloc (.cells #[.slice sa t.length cap] 27) (cellAlloc (.cells #[.int .i64 2] 3) hcell))
      gi_wp2
      refine ⟨trivial, ?_⟩
      refine (notes_in Fence.wide 29 trivial rfl _ _ _ _).mono ?_
      rintro e w4 ⟨rfl, rfl⟩
      have q1 := eql_func1
      have q2 := eql_func2
      gi_wp2
      clear q1 q2 hc3 hcell
      have HS := Lib.hid hS
      have HX := Lib.hid hX
      have HB := Lib.hid hB
      have HBT := Lib.hid hbt
      have HBT2 := Lib.hid hbt2
      clear hS hX hB hbt hbt2
      -- the world behind both iterators' values
      obtain ⟨V, hV⟩ : ∃ V, (((Y.alloc (.cells #[.int .i64 2] 3)).alloc (.cells #[.slice sa t.length cap] 27)).alloc (.cells #[.slice (some ⟨Y.heap.size, 0, none⟩) 1 1] 22)).alloc (.cells #[.slice sa t.length cap] 27) = V := ⟨_, rfl⟩
      rw [hV]
      have hsz : V.heap.size = Y.heap.size + 1 + 1 + 1 + 1 := by rw [← hV]; simp
      have HYV : Hid (Below Y.heap.size Y V) := by rw [← hV]; exact ((((Below.refl _ Y).alloc (Nat.le_refl _) _).alloc (by simp) _).alloc (by simp; omega) _).alloc (by simp; omega) _
      have b0 : V.cell? ⟨Y.heap.size, 0, none⟩ = some (.int .i64 2) := by rw [← hV]; exact cellAlloc _ (cellAlloc _ (cellAlloc _ (cellNew3 rfl rfl)))
      have b1 : V.cell? ⟨Y.heap.size + 1, 0, none⟩ = some (.slice sa t.length cap) := by rw [← hV]; exact cellAlloc _ (cellAlloc _ (cellNew3 (by simp) rfl))
      have b2 : V.cell? ⟨Y.heap.size + 1 + 1, 0, none⟩ = some (.slice (some ⟨Y.heap.size, 0, none⟩) 1 1) := by rw [← hV]; exact cellAlloc _ (cellNew3 (by simp) rfl)
      have b3 : V.cell? ⟨Y.heap.size + 1 + 1 + 1, 0, none⟩ = some (.slice sa t.length cap) := by rw [← hV]; exact cellNew3 (by simp) rfl
      have HV := Lib.hid (And.intro b0 (And.intro b1 (And.intro b2 b3)))
      have HBTV : Hid (V.cell? ⟨bt, 0, none⟩ = some (.slice sa t.length cap)) := cell_below HCELL.out HYV.out
      have HSV : Hid (SlAt V sa t) := HS.out.below HYV.out
      clear b0 b1 b2 b3 hV
      obtain ⟨M, hM⟩ : ∃ M, Y.heap.size + 1 + 1 + 1 + 1 = M := ⟨_, rfl⟩
      have hMV : V.heap.size = M := by rw [hsz, hM]
      rw [hM]
      have hUs : (V.alloc (.cells #[.int .i64 0] 3)).heap.size = M + 1 := by simp [hMV]
      have hSx : ∀ bx, (∀ x ∈ bx, M ≤ x) → SlBx (V.alloc (.cells #[.int .i64 0] 3)) bx sa t := fun bx hbx => by
        rcases HSV.out with h | ⟨g, o, h1, h2⟩
        · exact .inl h
        · by_cases e : t = []
          · exact .inl e
          · have hlt : g < V.heap.size := range_lt h2 (by intro h; have h5 := congrArg List.length h; rw [stepsL_length] at h5; exact e (List.length_eq_zero_iff.1 (by simp at h5; omega)))
            exact .inr ⟨g, o, h1, fun j v hj => cellAlloc _ (h2 j v hj), fun h => by have := hbx g h; omega, by omega⟩
      have hcn : (V.alloc (.cells #[.int .i64 0] 3)).cell? ⟨M, 0, none⟩ = some (.int .i64 0) := cellNew3 hMV.symm rfl
      have hfr : (V.alloc (.cells #[.int .i64 0] 3)).frozen? ⟨M, 0, none⟩ = false := by rw [← hMV]; exact (Boxed.new V 3 (.int .i64 0)).frozen
      have hU0 := HV.out
      have hOps : ∃ gb, (V.alloc (.cells #[.int .i64 0] 3)).cell? ⟨Y.heap.size + 1 + 1, 0, none⟩ = some (.slice (some ⟨gb, 0, none⟩) 1 1) ∧ (∀ m, m < ([2] : List Int).length → (V.alloc (.cells #[.int .i64 0] 3)).cell? ⟨gb, m, none⟩ = some (.int .i64 (([2] : List Int)[m]?.getD 0))) ∧ gb ∉ [M] := by
        refine ⟨Y.heap.size, cellAlloc _ hU0.2.2.1, fun m hm => ?_, by simp; omega⟩
        obtain rfl : m = 0 := by simp at hm; omega
        exact cellAlloc _ hU0.1
      refine range_ok (F := Fence.wide) rfl (by omega) (gf := 44) (lb := #[.pointer (some ⟨Y.heap.size + 1, 0, none⟩), .pointer (some ⟨Y.heap.size + 1 + 1, 0, none⟩)]) rfl trivial (enters_of Tryd.func44 (by kernel_rfl) rfl)
        ((steps_ok Fence.wide 29 trivial rfl (by omega) _ _ [M] sa cap t [2] (by omega) (by simp) _ (cellAlloc _ hU0.2.1) (hSx [M] (by simp)) hOps (by simp; omega)).kp (Kp' := fun A C => KeepC [M] A C ∧ KeepsFrom (M + 1 + 2) A C) (fun _ _ h => h.1))
        (fun h k => ⟨h.1.trans k.1, h.2.trans k.2⟩)
        (fun X o o' h hc => ⟨KeepC.putObj o' h hc, KeepsFrom.of_grownBy (grownBy_putObj' X _ o') (fun j e => by cases e; omega)⟩)
        (Below.refl _ _) (fun _ => rfl)
        (fun pre X => (X.cell? ⟨M, 0, none⟩ = some (.int .i64 (lastp pre : Int)) ∧ X.frozen? ⟨M, 0, none⟩ = false) ∧ Below M V X)
        (fun _ _ _ => False)
        (OwnFrom.and (Own.from (fun s A C row hs hg hr => ⟨cell_kept hs.1 hg hr, (frozen_kept hs.1 hg hr).trans hs.2⟩) _) (ownFrom_below (by omega) (by omega)))
        (fun _ _ _ _ _ hs _ _ => hs)
        ⟨⟨hcn, hfr⟩, (Below.refl _ _).alloc (by omega) _⟩
        (fun x a' X => ∃ bb, (M < bb ∧ ∀ (j : Nat) (v : Value), (stepL x.2)[j]? = some v → X.cell? ⟨bb, j, none⟩ = some v) ∧ a' = { tmps := #[.slice a n c, turnV h1 p1 n1 t1, .int .i64 many, undef, .pointer (some ⟨w.heap.size, 0, none⟩), undef, .pointer (some ⟨w.heap.size + 1, 0, none⟩), .bool true, .pointer (some ⟨bt, 0, none⟩), .func (.func 44) #[] #[.pointer (some ⟨Y.heap.size + 1, 0, none⟩), .pointer (some ⟨Y.heap.size + 1 + 1, 0, none⟩)], .func (.func 31) #[] #[.pointer (some ⟨Y.heap.size + 1 + 1 + 1, 0, none⟩)], .pointer (some ⟨M, 0, none⟩), .int .i64 (x.1 : Int), .pointer (some ⟨bb, 0, none⟩), undef, undef, undef, undef, undef, undef, .bool true, .slice a n c, s22, turnV h1 p1 n1 t1, .slice sa t.length cap, .slice sa t.length cap, .func (.func 44) #[] #[.pointer (some ⟨Y.heap.size + 1, 0, none⟩), .pointer (some ⟨Y.heap.size + 1 + 1, 0, none⟩)], .slice sa t.length cap, .func (.func 31) #[] #[.pointer (some ⟨Y.heap.size + 1 + 1 + 1, 0, none⟩)], .func (.func 44) #[] #[.pointer (some ⟨Y.heap.size + 1, 0, none⟩), .pointer (some ⟨Y.heap.size + 1 + 1, 0, none⟩)], .bool false, .bool false, .func (.func 31) #[] #[.pointer (some ⟨Y.heap.size + 1 + 1 + 1, 0, none⟩)], .bool false, .bool false, .func (.func 44) #[] #[.pointer (some ⟨Y.heap.size + 1, 0, none⟩), .pointer (some ⟨Y.heap.size + 1 + 1, 0, none⟩)], .int .i64 (x.1 : Int), .agg (stepL x.2).toArray, undef, undef, undef, undef, undef, undef, undef, undef, undef, undef, undef, undef, undef, undef, undef, undef, undef, undef, undef, undef, undef, undef, undef, undef, undef, undef, undef, undef, undef, undef, undef, undef, undef, undef, undef, undef, undef, undef, undef, undef, undef, undef, undef, undef, undef, undef, undef, undef, undef, undef, undef, undef, undef, undef, undef, undef, undef, undef, undef, undef, undef, undef, undef, undef, undef, undef, undef, undef, undef, undef, undef, undef, undef, undef, undef, undef, undef, undef, undef, undef, undef, undef, undef, undef, undef, undef, undef, undef, undef, undef, undef, undef, undef, undef, undef, undef, undef, undef, undef, undef, undef, undef, undef, undef, undef, undef, undef, undef, undef, undef, undef, undef, undef, undef, undef, undef, undef, undef, undef, undef, undef], defers := [] })
        (fun x a' s A C row ⟨bb, ⟨h0, h1⟩, h2⟩ hg hr => ⟨bb, ⟨h0, fun j v hj => cell_kept (h1 j v hj) hg (fun r e => (hr r e).2)⟩, h2⟩) ?assign ?body ?done ?stop
      case assign =>
        rintro l2 pre ⟨i, ⟨xo, xp, xa, xn, xm, xt⟩⟩ X K ⟨hc, hb⟩ hK
        simp only [encS, stepArr] at hK ⊢
        have hMX : M < X.heap.size := World.block_lt_of_cell? X ⟨M, 0, none⟩ hc.1
        have HMX := Lib.hid hMX
        clear hMX
        gi_wp2
        exact hK _ _ ((KeepsOthers.alloc _ _).from _) ⟨(KeepC.refl _ _).alloc _, (KeepsOthers.alloc _ _).from _⟩ ⟨⟨cellAlloc _ hc.1, (by rw [frozen?_alloc_cells]; exact hc.2)⟩, hb.alloc (by have := HMX.out; omega) _⟩ ⟨X.heap.size, ⟨HMX.out, fun j v hj => cellNew X _ _ j _ (by rw [← hj]; rcases j with _ | _ | _ | _ | _ | _ | j <;> rfl)⟩, rfl⟩
      case body =>
        rintro l2 pre x a' X ⟨⟨hc, hf⟩, hb⟩ ⟨b13, ⟨hM13, hb13⟩, rfl⟩ ⟨k, hk, rfl, rfl, hop⟩
        have HBX := Lib.hid hb
        have HCM := Lib.hid hc
        have HFM := Lib.hid hf
        have HOP := Lib.hid (any2t hop)
        have HB13 := Lib.hid hb13
        have HLP := Lib.hid (lastp_le [2] t k)
        have hSX : ∃ g o, sa = some ⟨g, o, none⟩ ∧ X.rangeAt g o (stepsL t) ∧ g < M := by
          rcases HSV.out with h | ⟨g, o, h1, h2⟩
          · subst h; simp at hk
          · have hlt : g < V.heap.size := range_lt h2 (by intro h; have h5 := congrArg List.length h; rw [stepsL_length] at h5; simp at h5; omega)
            exact ⟨g, o, h1, rangeAt_below h2 hb (by omega), by omega⟩
        obtain ⟨g, o, hsa, hrX, hgM⟩ := hSX
        subst hsa
        have HRX := Lib.hid hrX
        have HGM := Lib.hid hgM
        have HM13 := Lib.hid hM13
        have HKT := Lib.hid hk
        have hbtX := cell_below HBTV.out (by rw [hMV]; exact hb)
        have HBTX := Lib.hid hbtX
        have HBTM : Hid (bt < M) := by have h5 := HBT2.out; show bt < M; omega
        clear hb hc hf hop hb13 hrX hgM hM13 hbtX hSx hOps hU0 hcn hfr
        generalize hlp : lastp (selS [2] t k) = lp at HLP HCM ⊢
        have HGAP : Hid (∀ j, lp ≤ j → j < k → (([2] : List Int).any fun o => (t[j]?.getD default).op == o) = false) := by rw [← hlp]; exact told_gap [2] t k
        clear hlp
        gi_wp2
        gi_loopg [] (k - lp) (fun r ws => ∃ p : Nat, lp ≤ p ∧ p ≤ k ∧ r = k - p ∧ ws.cell? ⟨M, 0, none⟩ = some (.int .i64 (p : Int)) ∧ ws.frozen? ⟨M, 0, none⟩ = false ∧ X.grownBy ws (some M))
        case atStart => exact ⟨lp, Nat.le_refl _, HLP.out, rfl, HCM.out, HFM.out, grown_refl _ _⟩
        case round =>
          obtain ⟨p, hp1, hp2, hgk, hcp, hfp, hg⟩ := hrel
          have HG := Lib.hid hg
          have HGK := Lib.hid hgk
          have hct := grown_cell hg (by have := HBTM.out; omega) HBTX.out
          clear hg hgk
          have hpt : p < t.length ∨ p = k := by omega
          by_cases hlt : p < k
          · have hpl : p < t.length := by omega
            have hst := step_range HRX.out p hpl
            have hgp := any2 (HGAP.out p hp1 hlt)
            rw [List.getElem?_eq_getElem hpl, Option.getD_some] at hgp
            generalize t[p] = y at hst hgp
            obtain ⟨yo, yp, ya, yn, ym, yt⟩ := y
            have s0 : wr.cell? ⟨g, o + p * 6, none⟩ = some (.int .i64 yo) := grown_cell HG.out (by have := HGM.out; omega) (hst 0 _ rfl)
            have hy1 : (yo == 2) = false := by simpa using hgp
            have hy2 : (yo != 2) = true := by simpa using hgp
            clear hst hgp
            gi_wp2
            gi_roundg (k - (p + 1))
            case measure => have := HGK.out; omega
            case rel =>
              refine ⟨p + 1, by omega, by omega, rfl, ?_, by rw [World.frozen?_setCell]; exact hfp, HG.out.trans (grownBy_setCell' _ _ _)⟩
              have := World.cell?_setCell_same' wr ⟨M, 0, none⟩ (.int .i64 ((p : Int) + 1)) (by rw [hcp]; rfl)
              simpa using this
          · obtain rfl : p = k := by omega
            have hpl := HKT.out
            have hst := step_range HRX.out p hpl
            have hop2 := HOP.out
            have hbs := HB13.out
            rw [List.getElem?_eq_getElem hpl, Option.getD_some] at hop2 hbs
            generalize t[p] = y at hst hop2 hbs ⊢
            obtain ⟨yo, yp, ya, yn, ym, yt⟩ := y
            obtain rfl : yo = 2 := hop2
            have hgm : g ≠ M := by have := HGM.out; omega
            have hbm : b13 ≠ M := by have := HM13.out; omega
            have s0 : wr.cell? ⟨g, o + p * 6, none⟩ = some (.int .i64 2) := grown_cell HG.out hgm (hst 0 _ rfl)
            have s1 : wr.cell? ⟨g, o + p * 6 + 1, none⟩ = some (.int .i64 yp) := grown_cell HG.out hgm (hst 1 _ rfl)
            have s2 : wr.cell? ⟨g, o + p * 6 + 2, none⟩ = some (.int .i64 ya) := grown_cell HG.out hgm (hst 2 _ rfl)
            have s3 : wr.cell? ⟨g, o + p * 6 + 3, none⟩ = some (.int .i64 yn) := grown_cell HG.out hgm (hst 3 _ rfl)
            have s4 : wr.cell? ⟨g, o + p * 6 + 4, none⟩ = some (.int .i64 ym) := grown_cell HG.out hgm (hst 4 _ rfl)
            have s5 : wr.cell? ⟨g, o + p * 6 + 5, none⟩ = some (.string yt) := grown_cell HG.out hgm (hst 5 _ rfl)
            have z0 : wr.cell? ⟨b13, 0, none⟩ = some (.int .i64 2) := grown_cell HG.out hbm (hbs 0 _ rfl)
            have z1 : wr.cell? ⟨b13, 1, none⟩ = some (.int .i64 yp) := grown_cell HG.out hbm (hbs 1 _ rfl)
            have z2 : wr.cell? ⟨b13, 2, none⟩ = some (.int .i64 ya) := grown_cell HG.out hbm (hbs 2 _ rfl)
            have z3 : wr.cell? ⟨b13, 3, none⟩ = some (.int .i64 yn) := grown_cell HG.out hbm (hbs 3 _ rfl)
            have z4 : wr.cell? ⟨b13, 4, none⟩ = some (.int .i64 ym) := grown_cell HG.out hbm (hbs 4 _ rfl)
            have z5 : wr.cell? ⟨b13, 5, none⟩ = some (.string yt) := grown_cell HG.out hbm (hbs 5 _ rfl)
            clear hst hbs
            have hge : decide (t.length ≤ p) = false := by simpa using hpl
            gi_wp2
            refine quiet_round (F := Fence.wide) rfl (by kernel_rfl) (by kernel_rfl) (by kernel_rfl) ?_
            repeat (gi_big_quiet_step (fail))
            refine wpQuietIn_nil ?_
            intro _ hw'
            obtain ⟨nq, hw''⟩ := hw'
            subst hw''
            gi_wp2
            have hg2 : X.grownBy ((wr.drewN nq).setCell ⟨M, 0, none⟩ (.int .i64 ((p : Int) + 1))) (some M) := HG.out.trans (World.grownBy.trans (b := wr.drewN nq) ⟨rfl, rfl, rfl, Nat.le_refl _, fun _ _ _ => rfl⟩ (grownBy_setCell' _ _ _))
            have hkf : ∀ B, M < B → KeepsFrom B X ((wr.drewN nq).setCell ⟨M, 0, none⟩ (.int .i64 ((p : Int) + 1))) := fun B hB => KeepsFrom.of_grownBy hg2 (fun j e => by cases e; exact hB)
            refine ⟨hkf _ (by omega), ⟨grown_keepC hg2 (by simp), hkf _ (by omega)⟩, ⟨?_, by rw [World.frozen?_setCell]; exact hfp⟩, HBX.out.grown hg2 (by have := World.block_lt_of_cell? X ⟨M, 0, none⟩ HCM.out; exact Nat.le_of_lt this) (fun q e => by cases e; exact Nat.le_refl _)⟩
            rw [lastp_snoc]
            have := World.cell?_setCell_same' (wr.drewN nq) ⟨M, 0, none⟩ (.int .i64 ((p : Int) + 1)) (by rw [World.cell?_drewN, hcp]; rfl)
            simpa using this
      case done =>
        rintro D xs X hD rfl ⟨⟨hc, hf⟩, hb⟩ hK
        have hD2 : M < D := by omega
        have HD := Lib.hid hD2
        have HBX := Lib.hid hb
        have HKX := Lib.hid hK
        have hMX := World.block_lt_of_cell? X ⟨M, 0, none⟩ hc
        have HMX : Hid (M < X.heap.size) := hMX
        have HCM := Lib.hid hc
        have HFM := Lib.hid hf
        have HLP := Lib.hid (lastp_le [2] t t.length)
        have hbtX := cell_below HBTV.out (by rw [hMV]; exact hb)
        have HBTX := Lib.hid hbtX
        have HBTM : Hid (bt < M) := by have h5 := HBT2.out; show bt < M; omega
        have HSX : Hid (t = [] ∨ ∃ g o, sa = some ⟨g, o, none⟩ ∧ X.rangeAt g o (stepsL t) ∧ g < M) := by
          by_cases e : t = []
          · exact .inl e
          · rcases HSV.out with h | ⟨g, o, h1, h2⟩
            · exact .inl h
            · have hlt : g < V.heap.size := range_lt h2 (by intro h; have h5 := congrArg List.length h; rw [stepsL_length] at h5; exact e (List.length_eq_zero_iff.1 (by simp at h5; omega)))
              exact .inr ⟨g, o, h1, rangeAt_below h2 hb (by omega), by omega⟩
        clear hb hc hf hK hbtX hMX hSx hOps hU0 hcn hfr hD2 hD
        generalize hlp : lastp (selS [2] t t.length) = lp at HLP HCM ⊢
        have HGAP : Hid (∀ j, lp ≤ j → j < t.length → (([2] : List Int).any fun o => (t[j]?.getD default).op == o) = false) := by rw [← hlp]; exact told_gap [2] t t.length
        clear hlp
        gi_wp2
        gi_loopg [] (t.length - lp) (fun r ws => ∃ p : Nat, lp ≤ p ∧ p ≤ t.length ∧ r = t.length - p ∧ ws.cell? ⟨M, 0, none⟩ = some (.int .i64 (p : Int)) ∧ ws.frozen? ⟨M, 0, none⟩ = false ∧ X.grownBy ws (some M))
        case atStart => exact ⟨lp, Nat.le_refl _, HLP.out, rfl, HCM.out, HFM.out, grown_refl _ _⟩
        case round =>
          obtain ⟨p, hp1, hp2, hgk, hcp, hfp, hg⟩ := hrel
          have HG := Lib.hid hg
          have HGK := Lib.hid hgk
          have hct := grown_cell hg (by have := HBTM.out; omega) HBTX.out
          clear hg hgk
          by_cases hlt : p < t.length
          · have hS' : ∃ g o, sa = some ⟨g, o, none⟩ ∧ X.rangeAt g o (stepsL t) ∧ g < M := by
              rcases HSX.out with h | h
              · subst h; simp at hlt
              · exact h
            obtain ⟨g, o, hsa, hrX, hgM⟩ := hS'
            subst hsa
            have hst := step_range hrX p hlt
            have hgp := any2 (HGAP.out p hp1 hlt)
            rw [List.getElem?_eq_getElem hlt, Option.getD_some] at hgp
            generalize t[p] = y at hst hgp
            obtain ⟨yo, yp, ya, yn, ym, yt⟩ := y
            have s0 : wr.cell? ⟨g, o + p * 6, none⟩ = some (.int .i64 yo) := grown_cell HG.out (by omega) (hst 0 _ rfl)
            have hy1 : (yo == 2) = false := by simpa using hgp
            have hy2 : (yo != 2) = true := by simpa using hgp
            clear hst hgp hrX hgM
            gi_wp2
            gi_roundg (t.length - (p + 1))
            case measure => have := HGK.out; omega
            case rel =>
              refine ⟨p + 1, by omega, by omega, rfl, ?_, by rw [World.frozen?_setCell]; exact hfp, HG.out.trans (grownBy_setCell' _ _ _)⟩
              have := World.cell?_setCell_same' wr ⟨M, 0, none⟩ (.int .i64 ((p : Int) + 1)) (by rw [hcp]; rfl)
              simpa using this
          · obtain rfl : p = t.length := by omega
            gi_wp2
            have HTA := Lib.hid (TextsAt.new wr)
            have HUS : Hid ((wr.alloc (.cells #[.slice none 0 0] 44)).heap.size = wr.heap.size + 1) := by show _ = _; simp
            have HBU : Hid (Below wr.heap.size wr (wr.alloc (.cells #[.slice none 0 0] 44))) := (Below.refl _ _).alloc (Nat.le_refl _) _
            have HXW : Hid (X.heap.size ≤ wr.heap.size) := HG.out.size
            generalize wr.alloc (.cells #[.slice none 0 0] 44) = U at HTA HUS HBU ⊢
            obtain ⟨T, hT⟩ : ∃ T, wr.heap.size = T := ⟨_, rfl⟩
            rw [hT] at HTA HUS HBU HXW ⊢
            have HCTU : Hid (U.cell? ⟨bt, 0, none⟩ = some (.slice sa t.length cap)) := cell_below hct (by rw [hT]; exact HBU.out)
            have HMU : Hid (U.cell? ⟨M, 0, none⟩ = some (.int .i64 (t.length : Int))) := cell_below hcp (by rw [hT]; exact HBU.out)
            have HSU : Hid (t = [] ∨ ∃ g o, sa = some ⟨g, o, none⟩ ∧ U.rangeAt g o (stepsL t) ∧ g < M) := HSX.out.imp id fun ⟨g, o, h1, h2, h3⟩ => ⟨g, o, h1, fun j v hj => cell_below (grown_cell HG.out (by omega) (h2 j v hj)) (by rw [hT]; exact HBU.out), h3⟩
            have HMT : Hid (M < T) := by have := HMX.out; have := HXW.out; show M < T; omega
            have HDU : Hid (U.heap[D]? = some (.deferred (some [])) ∧ D < T) := by
              have h1 := (Array.getElem?_eq_some_iff.1 HKX.out).1
              have h2 := (HG.out.block D h1 (fun e => by have h5 := Option.some.inj e; have h6 := HD.out; omega)).trans HKX.out
              have h3 : D < wr.heap.size := (Array.getElem?_eq_some_iff.1 h2).1
              exact ⟨(HBU.out.block D (by omega)).trans h2, by omega⟩
            have HWU : Hid (Below w.heap.size w U) := by
              have h1 : Below w.heap.size w X := (bel2 (bel2 HB.out HYV.out) (by rw [hMV]; exact HBX.out))
              have h2 : Below w.heap.size w wr := h1.grown HG.out h1.size (fun k e => by cases e; have := HB.out.size; omega)
              exact bel2 h2 (by rw [hT]; exact HBU.out)
            have HVU : Hid (Below M V U) := (HBX.out.grown HG.out (by have := HMX.out; exact Nat.le_of_lt this) (fun k e => by cases e; exact Nat.le_refl _)).trans ((by rw [hT]; exact HBU.out : Below wr.heap.size wr U).mono (by have := HMT.out; omega))
            clear hct hcp hfp
            gi_loopg [15] t.length (fun r i ws => ∃ k : Nat, k ≤ t.length ∧ r = t.length - k ∧ i = .int .i64 (k : Int) ∧ ∃ v, TextsAt ws T v (selT t k) ∧ Below T U ws)
            case atStart => exact ⟨0, Nat.zero_le _, rfl, rfl, _, HTA.out, Below.refl _ _⟩
            case round =>
              obtain ⟨k, hk, hgk, rfl, v, hta, hbu⟩ := hrel
              have HTA := Lib.hid hta
              have HBU2 := Lib.hid hbu
              have HGK := Lib.hid hgk
              have hct := cell_belowT HCTU.out hbu (by have := HBTM.out; have := HMT.out; omega)
              clear hta hbu hgk
              by_cases hlt : k < t.length
              · have hS' : ∃ g o, sa = some ⟨g, o, none⟩ ∧ U.rangeAt g o (stepsL t) ∧ g < M := by
                  rcases HSU.out with h | h
                  · subst h; simp at hlt
                  · exact h
                obtain ⟨g, o, hsa, hrX, hgM⟩ := hS'
                subst hsa
                have hst := step_range hrX k hlt
                have HSS := Lib.hid (selT_succ t k)
                have hge : t[k]?.getD default = t[k] := by rw [List.getElem?_eq_getElem hlt]; rfl
                rw [hge] at HSS
                clear hge
                generalize t[k] = y at hst HSS
                obtain ⟨yo, yp, ya, yn, ym, yt⟩ := y
                have hgT : g < T := by have := HMT.out; omega
                have s0 : wr.cell? ⟨g, o + k * 6, none⟩ = some (.int .i64 yo) := cell_belowT (hst 0 _ rfl) HBU2.out hgT
                have s5 : wr.cell? ⟨g, o + k * 6 + 5, none⟩ = some (.string yt) := cell_belowT (hst 5 _ rfl) HBU2.out hgT
                have HKL : Hid ((selT t k).length ≤ k) := selT_le t k
                clear hst hrX hgM hgT
                have h67 : yo = 6 ∨ yo = 7 ∨ (yo ≠ 6 ∧ yo ≠ 7) := by omega
                rcases h67 with rfl | rfl | ⟨h6, h7⟩
                · have HSS2 : Hid (selT t (k + 1) = selT t k ++ [yt]) := by have h5 := HSS.out; rw [if_pos (by simp)] at h5; exact h5
                  gi_wp2
                  have hT0 := HTA.out.cell
                  have hT1 := cellAlloc (.cells #[.string yt] 9) HTA.out.cell
                  have hF0 := HTA.out.frz
                  have HTB := Lib.hid (TextsAt.alloc HTA.out #[.string yt] 9)
                  refine wpIn_mono (Q := fun e a' Z => match e with | .normal => ∃ (s93 s94 s95 s96 s97 s98 s99 s100 s101 s102 s103 s104 s105 s106 s107 s108 s109 s110 s111 s112 s113 s114 s115 s116 s117 s118 s119 s120 v2 : Value), a' = { tmps := #[.slice a n c, turnV h1 p1 n1 t1, .int .i64 many, undef, .pointer (some ⟨w.heap.size, 0, none⟩), undef, .pointer (some ⟨w.heap.size + 1, 0, none⟩), .bool true, .pointer (some ⟨bt, 0, none⟩), .func (.func 44) #[] #[.pointer (some ⟨Y.heap.size + 1, 0, none⟩), .pointer (some ⟨Y.heap.size + 1 + 1, 0, none⟩)], .func (.func 31) #[] #[.pointer (some ⟨Y.heap.size + 1 + 1 + 1, 0, none⟩)], .pointer (some ⟨M, 0, none⟩), undef, undef, .pointer (some ⟨T, 0, none⟩), .int .i64 (k : Int), undef, undef, undef, undef, .bool true, .slice a n c, s22, turnV h1 p1 n1 t1, .slice (some ⟨g, o, none⟩) t.length cap, .slice (some ⟨g, o, none⟩) t.length cap, .func (.func 44) #[] #[.pointer (some ⟨Y.heap.size + 1, 0, none⟩), .pointer (some ⟨Y.heap.size + 1 + 1, 0, none⟩)], .slice (some ⟨g, o, none⟩) t.length cap, .func (.func 31) #[] #[.pointer (some ⟨Y.heap.size + 1 + 1 + 1, 0, none⟩)], .func (.func 44) #[] #[.pointer (some ⟨Y.heap.size + 1, 0, none⟩), .pointer (some ⟨Y.heap.size + 1 + 1, 0, none⟩)], .bool false, .bool false, .func (.func 31) #[] #[.pointer (some ⟨Y.heap.size + 1 + 1 + 1, 0, none⟩)], .bool false, .bool false, .func (.func 44) #[] #[.pointer (some ⟨Y.heap.size + 1, 0, none⟩), .pointer (some ⟨Y.heap.size + 1 + 1, 0, none⟩)], undef, undef, undef, undef, undef, undef, undef, undef, undef, undef, undef, undef, undef, undef, undef, undef, undef, undef, undef, undef, undef, undef, undef, undef, undef, undef, undef, undef, undef, undef, undef, undef, undef, undef, undef, undef, undef, undef, undef, undef, undef, undef, undef, undef, undef, .int .i64 (t.length : Int), .slice (some ⟨g, o, none⟩) t.length cap, .int .i64 (t.length : Int), .bool false, u85, u86, u87, u88, u89, u90, u91, u92, s93, s94, s95, s96, s97, s98, s99, s100, s101, s102, s103, s104, s105, s106, s107, s108, s109, s110, s111, s112, s113, s114, s115, s116, s117, s118, s119, s120, undef, undef, undef, undef, undef, undef, undef, undef, undef, undef, undef, undef, undef, undef, undef, undef, undef, undef, undef, undef, undef, undef, undef, undef, undef, undef, undef, undef, undef, undef, undef, undef, undef, undef, undef, undef, undef, undef], defers := [{ target := .collected D, args := #[] }] } ∧ TextsAt Z T v2 (selT t (k + 1)) ∧ Below T U Z | _ => False) ?reg ?beh
                  case reg =>
                    refine wpIn_wide.2 ?_
                    go_region_law ((refine step_appS (.tmp 113) (.tmp 119) (by rfl) (by simp [Region.wanted]) (T + 1) v (selT t k) HTB.out.own wr.heap.size yt (cellNew wr _ _ 0 _ rfl) (by have := HKL.out; omega) HTB.out.lt (by simp [Act.eval, Act.put]) (by simp [Act.eval, Act.put]) ?_; intro v2 u2 hO2 hg2; obtain ⟨a2, c2, e2, -⟩ := OwnS.sl hO2; obtain ⟨m2, hm2⟩ : ∃ m2, (selT t k ++ [yt]).length = m2 := ⟨_, rfl⟩; rw [hm2] at e2; subst e2; clear hm2; obtain ⟨z1, z2, z3⟩ := TextsAt.far (w := (wr.alloc (.cells #[.string yt] 9)).drew) ⟨HTB.out.cell, HTB.out.frz, HTB.out.own, HTB.out.lt⟩ hg2))
                    all_goals
                      have hen : TextsAt (u2.setCell ⟨T, 0, none⟩ (.slice a2 m2 c2)) T (.slice a2 m2 c2) (selT t (k + 1)) ∧ Below T U (u2.setCell ⟨T, 0, none⟩ (.slice a2 m2 c2)) := by
                        rw [HSS2.out]
                        exact ⟨TextsAt.stored hO2 z1 z2 z3, (TextsAt.below (w := (wr.alloc (.cells #[.string yt] 9)).drew) ⟨HTB.out.cell, HTB.out.frz, HTB.out.own, HTB.out.lt⟩ (HBU2.out.alloc (Nat.le_of_lt HTA.out.lt) _).drew hg2).setCell (p := ⟨T, 0, none⟩) (Nat.le_refl _) _⟩
                      exact ⟨_, _, _, _, _, _, _, _, _, _, _, _, _, _, _, _, _, _, _, _, _, _, _, _, _, _, _, _, _, rfl, hen.1, hen.2⟩
                  case beh =>
                    rintro e a' Z hq
                    cases e with
                    | normal =>
                      obtain ⟨s93, s94, s95, s96, s97, s98, s99, s100, s101, s102, s103, s104, s105, s106, s107, s108, s109, s110, s111, s112, s113, s114, s115, s116, s117, s118, s119, s120, v2, rfl, hz1, hz2⟩ := hq
                      have HEN := Lib.hid (And.intro hz1 hz2)
                      clear hz1 hz2 hT0 hT1 hF0
                      gi_wp2
                      gi_roundg (t.length - (k + 1))
                      case measure => have := HGK.out; omega
                      case rel => exact ⟨k + 1, by omega, rfl, by simp, v2, HEN.out.1, HEN.out.2⟩
                    | _ => exact hq.elim
                · have HSS2 : Hid (selT t (k + 1) = selT t k ++ [yt]) := by have h5 := HSS.out; rw [if_pos (by simp)] at h5; exact h5
                  gi_wp2
                  have hT0 := HTA.out.cell
                  have hT1 := cellAlloc (.cells #[.string yt] 9) HTA.out.cell
                  have hF0 := HTA.out.frz
                  have HTB := Lib.hid (TextsAt.alloc HTA.out #[.string yt] 9)
                  refine wpIn_mono (Q := fun e a' Z => match e with | .normal => ∃ (s93 s94 s95 s96 s97 s98 s99 s100 s101 s102 s103 s104 s105 s106 s107 s108 s109 s110 s111 s112 s113 s114 s115 s116 s117 s118 s119 s120 v2 : Value), a' = { tmps := #[.slice a n c, turnV h1 p1 n1 t1, .int .i64 many, undef, .pointer (some ⟨w.heap.size, 0, none⟩), undef, .pointer (some ⟨w.heap.size + 1, 0, none⟩), .bool true, .pointer (some ⟨bt, 0, none⟩), .func (.func 44) #[] #[.pointer (some ⟨Y.heap.size + 1, 0, none⟩), .pointer (some ⟨Y.heap.size + 1 + 1, 0, none⟩)], .func (.func 31) #[] #[.pointer (some ⟨Y.heap.size + 1 + 1 + 1, 0, none⟩)], .pointer (some ⟨M, 0, none⟩), undef, undef, .pointer (some ⟨T, 0, none⟩), .int .i64 (k : Int), undef, undef, undef, undef, .bool true, .slice a n c, s22, turnV h1 p1 n1 t1, .slice (some ⟨g, o, none⟩) t.length cap, .slice (some ⟨g, o, none⟩) t.length cap, .func (.func 44) #[] #[.pointer (some ⟨Y.heap.size + 1, 0, none⟩), .pointer (some ⟨Y.heap.size + 1 + 1, 0, none⟩)], .slice (some ⟨g, o, none⟩) t.length cap, .func (.func 31) #[] #[.pointer (some ⟨Y.heap.size + 1 + 1 + 1, 0, none⟩)], .func (.func 44) #[] #[.pointer (some ⟨Y.heap.size + 1, 0, none⟩), .pointer (some ⟨Y.heap.size + 1 + 1, 0, none⟩)], .bool false, .bool false, .func (.func 31) #[] #[.pointer (some ⟨Y.heap.size + 1 + 1 + 1, 0, none⟩)], .bool false, .bool false, .func (.func 44) #[] #[.pointer (some ⟨Y.heap.size + 1, 0, none⟩), .pointer (some ⟨Y.heap.size + 1 + 1, 0, none⟩)], undef, undef, undef, undef, undef, undef, undef, undef, undef, undef, undef, undef, undef, undef, undef, undef, undef, undef, undef, undef, undef, undef, undef, undef, undef, undef, undef, undef, undef, undef, undef, undef, undef, undef, undef, undef, undef, undef, undef, undef, undef, undef, undef, undef, undef, .int .i64 (t.length : Int), .slice (some ⟨g, o, none⟩) t.length cap, .int .i64 (t.length : Int), .bool false, u85, u86, u87, u88, u89, u90, u91, u92, s93, s94, s95, s96, s97, s98, s99, s100, s101, s102, s103, s104, s105, s106, s107, s108, s109, s110, s111, s112, s113, s114, s115, s116, s117, s118, s119, s120, undef, undef, undef, undef, undef, undef, undef, undef, undef, undef, undef, undef, undef, undef, undef, undef, undef, undef, undef, undef, undef, undef, undef, undef, undef, undef, undef, undef, undef, undef, undef, undef, undef, undef, undef, undef, undef, undef], defers := [{ target := .collected D, args := #[] }] } ∧ TextsAt Z T v2 (selT t (k + 1)) ∧ Below T U Z | _ => False) ?reg ?beh
                  case reg =>
                    refine wpIn_wide.2 ?_
                    go_region_law ((refine step_appS (.tmp 113) (.tmp 119) (by rfl) (by simp [Region.wanted]) (T + 1) v (selT t k) HTB.out.own wr.heap.size yt (cellNew wr _ _ 0 _ rfl) (by have := HKL.out; omega) HTB.out.lt (by simp [Act.eval, Act.put]) (by simp [Act.eval, Act.put]) ?_; intro v2 u2 hO2 hg2; obtain ⟨a2, c2, e2, -⟩ := OwnS.sl hO2; obtain ⟨m2, hm2⟩ : ∃ m2, (selT t k ++ [yt]).length = m2 := ⟨_, rfl⟩; rw [hm2] at e2; subst e2; clear hm2; obtain ⟨z1, z2, z3⟩ := TextsAt.far (w := (wr.alloc (.cells #[.string yt] 9)).drew) ⟨HTB.out.cell, HTB.out.frz, HTB.out.own, HTB.out.lt⟩ hg2))
                    all_goals
                      have hen : TextsAt (u2.setCell ⟨T, 0, none⟩ (.slice a2 m2 c2)) T (.slice a2 m2 c2) (selT t (k + 1)) ∧ Below T U (u2.setCell ⟨T, 0, none⟩ (.slice a2 m2 c2)) := by
                        rw [HSS2.out]
                        exact ⟨TextsAt.stored hO2 z1 z2 z3, (TextsAt.below (w := (wr.alloc (.cells #[.string yt] 9)).drew) ⟨HTB.out.cell, HTB.out.frz, HTB.out.own, HTB.out.lt⟩ (HBU2.out.alloc (Nat.le_of_lt HTA.out.lt) _).drew hg2).setCell (p := ⟨T, 0, none⟩) (Nat.le_refl _) _⟩
                      exact ⟨_, _, _, _, _, _, _, _, _, _, _, _, _, _, _, _, _, _, _, _, _, _, _, _, _, _, _, _, _, rfl, hen.1, hen.2⟩
                  case beh =>
                    rintro e a' Z hq
                    cases e with
                    | normal =>
                      obtain ⟨s93, s94, s95, s96, s97, s98, s99, s100, s101, s102, s103, s104, s105, s106, s107, s108, s109, s110, s111, s112, s113, s114, s115, s116, s117, s118, s119, s120, v2, rfl, hz1, hz2⟩ := hq
                      have HEN := Lib.hid (And.intro hz1 hz2)
                      clear hz1 hz2 hT0 hT1 hF0
                      gi_wp2
                      gi_roundg (t.length - (k + 1))
                      case measure => have := HGK.out; omega
                      case rel => exact ⟨k + 1, by omega, rfl, by simp, v2, HEN.out.1, HEN.out.2⟩
                    | _ => exact hq.elim
                · have h61 : (yo == 6) = false := by simpa using h6
                  have h71 : (yo == 7) = false := by simpa using h7
                  have HSS2 : Hid (selT t (k + 1) = selT t k) := by have h5 := HSS.out; rw [if_neg (by simp [h6, h7]), List.append_nil] at h5; exact h5
                  clear h6 h7
                  gi_wp2
                  gi_roundg (t.length - (k + 1))
                  case measure => have := HGK.out; omega
                  case rel => exact ⟨k + 1, by omega, rfl, by simp, v, by rw [HSS2.out]; exact HTA.out, HBU2.out⟩
              · obtain rfl : k = t.length := by omega
                gi_wp2
                have HTW : Hid (TextsAt wr T v (selT t t.length)) := HTA.out
                have HVW : Hid (Below M V wr) := HVU.out.trans (HBU2.out.mono (by have := HMT.out; omega))
                have HWW : Hid (Below w.heap.size w wr) := bel3 HWU.out HBU2.out (by have h1 := HWU.out.size; have h2 := HUS.out; have h3 := HB.out.size; have h4 := HMT.out; omega)
                have HDW : Hid (wr.heap[D]? = some (.deferred (some [])) ∧ D < T) := ⟨(HBU2.out.block D HDU.out.2).trans HDU.out.1, HDU.out.2⟩
                obtain ⟨sT, cT, rfl, hcells⟩ := OwnS.sl HTW.out.own
                have HCE := Lib.hid hcells
                clear hcells hct
                obtain ⟨N, hN⟩ : ∃ N, wr.heap.size = N := ⟨_, rfl⟩
                have hTN : T < N := by have := HTW.out.lt; omega
                have HTN := Lib.hid hTN
                have HN := Lib.hid hN
                have hcn : (wr.alloc (.cells #[.int .i64 0] 3)).cell? ⟨N, 0, none⟩ = some (.int .i64 0) := cellNew3 hN.symm rfl
                have hfr : (wr.alloc (.cells #[.int .i64 0] 3)).frozen? ⟨N, 0, none⟩ = false := by rw [← hN]; exact (Boxed.new wr 3 (.int .i64 0)).frozen
                have hZs : (wr.alloc (.cells #[.int .i64 0] 3)).heap.size = N + 1 := by simp [hN]
                have hSlW : ∀ bx, (∀ y ∈ bx, M ≤ y) → SlBx wr bx sa t := fun bx hbx => by
                  rcases HSU.out with h | ⟨g, o, h1, h2, h3⟩
                  · exact .inl h
                  · exact .inr ⟨g, o, h1, fun j u hj => cell_belowT (h2 j u hj) HBU2.out (by have := HMT.out; omega), fun h => by have := hbx g h; omega, by have := HMT.out; omega⟩
                have HSlW := Lib.hid hSlW
                have hBtW : wr.cell? ⟨Y.heap.size + 1 + 1 + 1, 0, none⟩ = some (.slice sa t.length cap) := cell_belowT HV.out.2.2.2 HVW.out (by omega)
                rw [hN]
                have HNO := Lib.hid (notes_ok 29 (by omega) (Y.heap.size + 1 + 1 + 1) cap sa [N] t (by omega) (wr.alloc (.cells #[.int .i64 0] 3)) (fun y hy => by simp at hy; omega) (cellAlloc _ hBtW) (by
                  rcases HSlW.out [N] (by simp; have := HMT.out; omega) with h | ⟨g, o, h1, h2, h3, h4⟩
                  · exact .inl h
                  · exact .inr ⟨g, o, h1, fun j u hj => cellAlloc _ (h2 j u hj), h3, by omega⟩))
                have HCN := Lib.hid (And.intro hcn hfr)
                have HZS := Lib.hid hZs
                clear hSlW hBtW hcn hfr
                refine range_ok (F := Fence.wide) rfl (by omega) (gf := 31) (lb := #[.pointer (some ⟨Y.heap.size + 1 + 1 + 1, 0, none⟩)]) rfl trivial (enters_of Tryd.func31 (by kernel_rfl) rfl)
                  HNO.out
                  (fun h k => ⟨h.1.trans k.1, h.2.trans k.2⟩)
                  (fun X o o' h hc => ⟨KeepC.putObj o' h hc, KeepsFrom.of_grownBy (grownBy_putObj' X _ o') (fun j e => by cases e; omega)⟩)
                  (Below.refl _ _) (fun _ => rfl)
                  (fun pre X => (X.cell? ⟨N, 0, none⟩ = some (.int .i64 (pre.length : Int)) ∧ X.frozen? ⟨N, 0, none⟩ = false) ∧ Below N wr X)
                  (fun _ _ _ => False)
                  (OwnFrom.and (Own.from (fun s A C row hs hg hr => ⟨cell_kept hs.1 hg hr, (frozen_kept hs.1 hg hr).trans hs.2⟩) _) (ownFrom_below (by omega) (by omega)))
                  (fun _ _ _ _ _ hs _ _ => hs)
                  ⟨HCN.out, (Below.refl _ _).alloc (by omega) _⟩
                  (fun x a' X => a' = { tmps := #[.slice a n c, turnV h1 p1 n1 t1, .int .i64 many, undef, .pointer (some ⟨w.heap.size, 0, none⟩), undef, .pointer (some ⟨w.heap.size + 1, 0, none⟩), .bool true, .pointer (some ⟨bt, 0, none⟩), .func (.func 44) #[] #[.pointer (some ⟨Y.heap.size + 1, 0, none⟩), .pointer (some ⟨Y.heap.size + 1 + 1, 0, none⟩)], .func (.func 31) #[] #[.pointer (some ⟨Y.heap.size + 1 + 1 + 1, 0, none⟩)], .pointer (some ⟨M, 0, none⟩), undef, undef, .pointer (some ⟨T, 0, none⟩), .int .i64 (t.length : Int), .pointer (some ⟨N, 0, none⟩), .string x, undef, undef, .bool true, .slice a n c, s22, turnV h1 p1 n1 t1, .slice sa t.length cap, .slice sa t.length cap, .func (.func 44) #[] #[.pointer (some ⟨Y.heap.size + 1, 0, none⟩), .pointer (some ⟨Y.heap.size + 1 + 1, 0, none⟩)], .slice sa t.length cap, .func (.func 31) #[] #[.pointer (some ⟨Y.heap.size + 1 + 1 + 1, 0, none⟩)], .func (.func 44) #[] #[.pointer (some ⟨Y.heap.size + 1, 0, none⟩), .pointer (some ⟨Y.heap.size + 1 + 1, 0, none⟩)], .bool false, .bool false, .func (.func 31) #[] #[.pointer (some ⟨Y.heap.size + 1 + 1 + 1, 0, none⟩)], .bool false, .bool false, .func (.func 44) #[] #[.pointer (some ⟨Y.heap.size + 1, 0, none⟩), .pointer (some ⟨Y.heap.size + 1 + 1, 0, none⟩)], undef, undef, undef, undef, undef, undef, undef, undef, undef, undef, undef, undef, undef, undef, undef, undef, undef, undef, undef, undef, undef, undef, undef, undef, undef, undef, undef, undef, undef, undef, undef, undef, undef, undef, undef, undef, undef, undef, undef, undef, undef, undef, undef, undef, undef, .int .i64 (t.length : Int), .slice sa t.length cap, .int .i64 (t.length : Int), .bool false, u85, u86, u87, u88, u89, u90, u91, u92, .int .i64 (t.length : Int), .slice sa t.length cap, .int .i64 (t.length : Int), .bool false, u97, u98, u99, u100, u101, u102, u103, u104, u105, u106, u107, u108, u109, u110, u111, u112, u113, u114, u115, u116, u117, u118, u119, u120, .func (.func 31) #[] #[.pointer (some ⟨Y.heap.size + 1 + 1 + 1, 0, none⟩)], .string x, undef, undef, undef, undef, undef, undef, undef, undef, undef, undef, undef, undef, undef, undef, undef, undef, undef, undef, undef, undef, undef, undef, undef, undef, undef, undef, undef, undef, undef, undef, undef, undef, undef, undef, undef, undef], defers := [] })
                  (fun x a' s A C row h hg hr => h) ?assign2 ?body2 ?done2 ?stop2
                case assign2 =>
                  rintro l2 pre x X K ⟨hc, hb⟩ hK
                  simp only [encT] at hK ⊢
                  gi_wp2
                  exact hK _ _ (KeepsFrom.refl _ _) ⟨KeepC.refl _ _, KeepsFrom.refl _ _⟩ ⟨hc, hb⟩ rfl
                case body2 =>
                  rintro l2 pre x a' X ⟨⟨hc, hf⟩, hb⟩ rfl hok
                  obtain ⟨hlt2, hat⟩ := hok.at
                  have hbT := cell_belowT HTW.out.cell hb (by have := HTN.out; omega)
                  have hcs : ∃ g, sT = some ⟨g, 0, none⟩ ∧ X.cell? ⟨g, pre.length, none⟩ = some (.string x) := by
                    rcases HCE.out with h | ⟨g, h1, h2⟩
                    · rw [h] at hlt2; simp at hlt2
                    · exact ⟨g, h1, by rw [← hat]; exact cell_below (h2 _ hlt2) (by rw [HN.out]; exact hb)⟩
                  obtain ⟨g, rfl, hs⟩ := hcs
                  have HB := Lib.hid hb
                  have HL40 : Hid ((selT t t.length).length ≤ t.length) := selT_le t t.length
                  have h40 : (selT t t.length).length ≤ 40 := by have := HL40.out; omega
                  have hge : decide ((selT t t.length).length ≤ pre.length) = false := by simpa using hlt2
                  clear hb hat hok
                  generalize (selT t t.length).length = c2 at *
                  gi_wp2
                  refine ⟨(KeepsOthers.setCell _ _ _).from _, ⟨KeepC.setCell (by simp) _, (KeepsOthers.setCell _ _ _).from _⟩, ⟨?_, by rw [World.frozen?_setCell]; exact hf⟩, HB.out.setCell (p := ⟨N, 0, none⟩) (Nat.le_refl _) _⟩
                  have := World.cell?_setCell_same' X ⟨N, 0, none⟩ (.int .i64 ((pre.length : Int) + 1)) (by rw [hc]; rfl)
                  simpa using this
                case done2 =>
                  rintro D2 xs X hD2 rfl ⟨⟨hc, hf⟩, hb⟩ hK2
                  have hD3 : N < D2 := by omega
                  have HD2 := Lib.hid hD3
                  have hD2X := (Array.getElem?_eq_some_iff.1 hK2).1
                  have HDX : Hid ((X.heap[D]? = some (.deferred (some [])) ∧ D < N) ∧ X.heap[D2]? = some (.deferred (some [])) ∧ D2 < X.heap.size) := by
                    have h1 := HDW.out
                    have h2 := HTN.out
                    exact ⟨⟨(hb.block D (by omega)).trans h1.1, by omega⟩, hK2, hD2X⟩
                  have HWX : Hid (Below w.heap.size w X) := bel3 HWW.out hb (by have h1 := HWW.out.size; have h2 := HN.out; omega)
                  have HVX : Hid (Below M V X) := HVW.out.trans (hb.mono (by have := HMT.out; have := HTN.out; omega))
                  have HCX := Lib.hid (And.intro hc hf)
                  have HTX : Hid (X.cell? ⟨T, 0, none⟩ = some (.slice sT (selT t t.length).length cT)) := cell_belowT HTW.out.cell hb (by have := HTN.out; omega)
                  have HNX : Hid (N < X.heap.size) := World.block_lt_of_cell? X ⟨N, 0, none⟩ hc
                  have HRX : Hid (t = [] ∨ ∃ g o, sa = some ⟨g, o, none⟩ ∧ X.rangeAt g o (stepsL t) ∧ g < M) := HSU.out.imp id fun ⟨g, o, h1, h2, h3⟩ => ⟨g, o, h1, fun j u hj => cell_belowT (cell_belowT (h2 j u hj) HBU2.out (by have := HMT.out; omega)) hb (by have := HMT.out; have := HTN.out; omega), h3⟩
                  have HR6 : Hid (X.cell? ⟨w.heap.size + 1, 0, none⟩ = some (.bool false) ∧ X.frozen? ⟨w.heap.size + 1, 0, none⟩ = false) := by
                    have h1 := HBT.out
                    have h2 := HBT2.out
                    exact keep2 (keep2 HQ6Y.out HYV.out (by omega)) HVX.out (by omega)
                  have H40 : Hid ((selT t t.length).length ≤ 40) := by have := selT_le t t.length; show _ ≤ _; omega
                  clear hc hf hb hK2 hD2X hD3 hD2
                  generalize (selT t t.length).length = c2 at *
                  gi_wp2
                  refine ⟨trivial, ?_⟩
                  refine (callsIn_wide.2 (rest_any many 9 _ (by omega) (by omega))).mono ?_
                  rintro e w2 ⟨rfl, hw2⟩
                  subst w2
                  obtain ⟨rn, hrn⟩ : ∃ rn : Nat, many % 9 = (rn : Int) := ⟨(many % 9).toNat, by omega⟩
                  have h9 : rn ≤ 8 := by omega
                  rw [hrn]
                  clear hrn
                  gi_wp2
                  obtain ⟨R, hR⟩ : ∃ R, X.heap.size = R := ⟨_, rfl⟩
                  have hGs : (X.alloc (.cells #[.int .i64 (rn : Int)] 3)).heap.size = R + 1 := by simp [hR]
                  have hNR : N < R := by have := HNX.out; omega
                  have hrc : (X.alloc (.cells #[.int .i64 (rn : Int)] 3)).cell? ⟨R, 0, none⟩ = some (.int .i64 (rn : Int)) := cellNew3 hR.symm rfl
                  have HXA : Hid (Below R X (X.alloc (.cells #[.int .i64 (rn : Int)] 3))) := (Below.refl _ _).alloc (by omega) _
                  rw [hR]
                  have HRR := Lib.hid hR
                  clear hR
                  generalize X.alloc (.cells #[.int .i64 (rn : Int)] 3) = X2 at hGs hrc HXA ⊢
                  have HXV : Hid (Below M V X2) := HVX.out.trans (HXA.out.mono (by have := HMT.out; have := HTN.out; omega))
                  have HWX2 : Hid (Below w.heap.size w X2) := bel3 HWX.out HXA.out (by have h1 := HWX.out.size; have h2 := HRR.out; omega)
                  have hcn : (X2.alloc (.cells #[.int .i64 0] 3)).cell? ⟨R + 1, 0, none⟩ = some (.int .i64 0) := cellNew3 hGs.symm rfl
                  have hfr : (X2.alloc (.cells #[.int .i64 0] 3)).frozen? ⟨R + 1, 0, none⟩ = false := by rw [← hGs]; exact (Boxed.new X2 3 (.int .i64 0)).frozen
                  have hZs : (X2.alloc (.cells #[.int .i64 0] 3)).heap.size = R + 1 + 1 := by simp [hGs]
                  have hOp3 : ∃ gb, (X2.alloc (.cells #[.int .i64 0] 3)).cell? ⟨Y.heap.size + 1 + 1, 0, none⟩ = some (.slice (some ⟨gb, 0, none⟩) 1 1) ∧ (∀ m, m < ([2] : List Int).length → (X2.alloc (.cells #[.int .i64 0] 3)).cell? ⟨gb, m, none⟩ = some (.int .i64 (([2] : List Int)[m]?.getD 0))) ∧ gb ∉ [R + 1] := by
                    have hM1 := HMT.out
                    have hM2 := HTN.out
                    refine ⟨Y.heap.size, cellAlloc _ (cell_belowT HV.out.2.2.1 HXV.out (by omega)), fun m hm => ?_, by simp; omega⟩
                    obtain rfl : m = 0 := by simp at hm; omega
                    exact cellAlloc _ (cell_belowT HV.out.1 HXV.out (by omega))
                  have hSx3 : SlBx (X2.alloc (.cells #[.int .i64 0] 3)) [R + 1] sa t := by
                    have hM1 := HMT.out
                    have hM2 := HTN.out
                    rcases HRX.out with h | ⟨g, o, h1, h2, h3⟩
                    · exact .inl h
                    · exact .inr ⟨g, o, h1, fun j u hj => cellAlloc _ (cell_belowT (h2 j u hj) HXA.out (by omega)), by simp; omega, by omega⟩
                  have HST := Lib.hid (steps_ok Fence.wide 29 trivial rfl (by omega) (Y.heap.size + 1) (Y.heap.size + 1 + 1) [R + 1] sa cap t [2] (by omega) (by simp) _ (cellAlloc (.cells #[.int .i64 0] 3) (cell_belowT HV.out.2.1 HXV.out (by omega))) hSx3 hOp3 (by have hM1 := HMT.out; have hM2 := HTN.out; simp; omega))
                  have HCF := Lib.hid (And.intro hcn hfr)
                  have HRC := Lib.hid hrc
                  clear hSx3 hOp3 hcn hfr hrc
                  refine range_okskip (F := Fence.wide) rfl (by omega) (gf := 44) (lb := #[.pointer (some ⟨Y.heap.size + 1, 0, none⟩), .pointer (some ⟨Y.heap.size + 1 + 1, 0, none⟩)]) rfl trivial (enters_of Tryd.func44 (by kernel_rfl) rfl)
                    (HST.out.kp (Kp' := fun A C => KeepC [R + 1] A C ∧ KeepsFrom (R + 1 + 1 + 2) A C) (fun _ _ h => h.1))
                    (fun A => ⟨KeepC.refl _ _, KeepsFrom.refl _ _⟩) (fun h k => ⟨h.1.trans k.1, h.2.trans k.2⟩)
                    (fun X o o' h hc => ⟨KeepC.putObj o' h hc, KeepsFrom.of_grownBy (grownBy_putObj' X _ o') (fun j e => by cases e; omega)⟩)
                    (Below.refl _ _) (fun _ => rfl)
                    (fun pre Z => ((Z.cell? ⟨R + 1, 0, none⟩ = some (.int .i64 (pre.length : Int)) ∧ Z.frozen? ⟨R + 1, 0, none⟩ = false) ∧ Below (R + 1) X2 Z) ∧ pre.length ≤ rn)
                    (fun c pre Z => ((∃ q : Nat, q ≤ rn ∧ Z.cell? ⟨R + 1, 0, none⟩ = some (.int .i64 (q : Int))) ∧ Below (R + 1) X2 Z) ∧ c = .exit 10)
                    (OwnFrom.and (OwnFrom.and (Own.from (fun s A C row hs hg hr => ⟨cell_kept hs.1 hg hr, (frozen_kept hs.1 hg hr).trans hs.2⟩) _) (ownFrom_below (by omega) (by omega))) (ownFrom_pure _ _))
                    (fun c => OwnFrom.and (OwnFrom.and (Own.from (fun s A C row ⟨q, h1, h2⟩ hg hr => ⟨q, h1, cell_kept h2 hg hr⟩) _) (ownFrom_below (by omega) (by omega))) (ownFrom_pure _ _))
                    ⟨⟨HCF.out, (Below.refl _ _).alloc (by omega) _⟩, by simp⟩ ?body3 ?done3 ?stop3
                  case body3 =>
                    rintro l2 pre ⟨i, ⟨xo, xp, xa, xn, xm, xt⟩⟩ Z ⟨⟨⟨hc, hf⟩, hb⟩, hpr⟩ hok
                    have hrZ := cell_belowT HRC.out hb (by omega)
                    have HBZ := Lib.hid hb
                    clear hb hok
                    simp only [encS, stepArr]
                    by_cases he : pre.length = rn
                    · have h1 : ((pre.length : Int) == (rn : Int)) = true := by simp [he]
                      gi_wp2
                      exact ⟨KeepsFrom.refl _ _, ⟨KeepC.refl _ _, KeepsFrom.refl _ _⟩, ⟨⟨pre.length, hpr, hc⟩, HBZ.out⟩, rfl⟩
                    · have h1 : ((pre.length : Int) == (rn : Int)) = false := by simp; omega
                      have hp9 : pre.length < rn := by omega
                      gi_wp2
                      refine ⟨(KeepsOthers.setCell _ _ _).from _, ⟨KeepC.setCell (by simp) _, (KeepsOthers.setCell _ _ _).from _⟩, ⟨⟨?_, by rw [World.frozen?_setCell]; exact hf⟩, HBZ.out.setCell (p := ⟨R + 1, 0, none⟩) (Nat.le_refl _) _⟩, by simp; omega⟩
                      have := World.cell?_setCell_same' Z ⟨R + 1, 0, none⟩ (.int .i64 ((pre.length : Int) + 1)) (by rw [hc]; rfl)
                      simpa using this
                  case done3 =>
                    rintro D3 xs Z hD3 rfl ⟨⟨⟨hc, hf⟩, hb⟩, hpr⟩ hK3
                    generalize (selS [2] t t.length).length = q at hc hpr
                    have HEB := Lib.hid hb
                    have HEK := Lib.hid hK3
                    have hqN := cell_belowT (cell_belowT HCX.out.1 HXA.out hNR) hb (by omega)
                    have hqT := cell_belowT (cell_belowT HTX.out HXA.out (by have := HTN.out; omega)) hb (by have := HTN.out; omega)
                    have hqR := cell_belowT HRC.out hb (by omega)
                    obtain ⟨hq6, hf6⟩ := keep2 (keep2 HR6.out HXA.out (by have h1 := HBT.out; have h2 := HBT2.out; have h3 := HMT.out; have h4 := HTN.out; omega)) hb (by have h1 := HBT.out; have h2 := HBT2.out; have h3 := HMT.out; have h4 := HTN.out; omega)
                    have HQ6Z := Lib.hid hq6
                    have h40 := H40.out
                    have HZ1 : Hid ((Z.heap[D]? = some (.deferred (some [])) ∧ D < N) ∧ Z.heap[D2]? = some (.deferred (some [])) ∧ N < D2 ∧ D2 < R ∧ R + 1 < D3) := by
                      have h1 := HDX.out
                      have h2 := HRR.out
                      exact ⟨⟨(hb.block D (by omega)).trans ((HXA.out.block D (by omega)).trans h1.1.1), h1.1.2⟩, (hb.block D2 (by omega)).trans ((HXA.out.block D2 (by omega)).trans h1.2.1), HD2.out, by omega, by omega⟩
                    have HWZ : Hid (Below w.heap.size w Z) := bel3 HWX2.out hb (by have h1 := HWX2.out.size; omega)
                    have HW6 : Hid (w.heap.size + 1 < M) := by have h1 := HBT.out; have h2 := HBT2.out; show _ < _; omega
                    clear hb hK3
                    gi_wp2
                    have hW0 := HD.out
                    have hW1 := HW6.out
                    have hW2 := HMT.out
                    have hW3 := HTN.out
                    have hZ1 := HZ1.out
                    have hk3 : (Z.setCell ⟨w.heap.size + 1, 0, none⟩ (.bool true)).heap[D3]? = some (.deferred (some [])) := ((grownBy_setCell' Z (w.heap.size + 1) (.bool true)).block D3 (Array.getElem?_eq_some_iff.1 HEK.out).1 (fun e => by have := Option.some.inj e; omega)).trans HEK.out
                    have hk2 : (Z.setCell ⟨w.heap.size + 1, 0, none⟩ (.bool true)).heap[D2]? = some (.deferred (some [])) := ((grownBy_setCell' Z (w.heap.size + 1) (.bool true)).block D2 (Array.getElem?_eq_some_iff.1 hZ1.2.1).1 (fun e => by have := Option.some.inj e; omega)).trans hZ1.2.1
                    have hk1 : (Z.setCell ⟨w.heap.size + 1, 0, none⟩ (.bool true)).heap[D]? = some (.deferred (some [])) := ((grownBy_setCell' Z (w.heap.size + 1) (.bool true)).block D (Array.getElem?_eq_some_iff.1 hZ1.1.1).1 (fun e => by have := Option.some.inj e; omega)).trans hZ1.1.1
                    have hb0 : Below w.heap.size w (Z.setCell ⟨w.heap.size + 1, 0, none⟩ (.bool true)) := HWZ.out.setCell (p := ⟨w.heap.size + 1, 0, none⟩) (by show w.heap.size ≤ w.heap.size + 1; omega) _
                    have hc0 : (Z.setCell ⟨w.heap.size + 1, 0, none⟩ (.bool true)).cell? ⟨w.heap.size + 1, 0, none⟩ = some (.bool true) := World.cell?_setCell_same' _ _ _ (by rw [HQ6Z.out]; rfl)
                    generalize Z.setCell ⟨w.heap.size + 1, 0, none⟩ (.bool true) = Z2 at hk1 hk2 hk3 hb0 hc0 ⊢
                    have hk22 : (Z2.putObj D3 (.deferred none)).heap[D2]? = some (.deferred (some [])) := (World.putObj_heap_other (by omega)).trans hk2
                    have hk12 : ((Z2.putObj D3 (.deferred none)).putObj D2 (.deferred none)).heap[D]? = some (.deferred (some [])) := (World.putObj_heap_other (by omega)).trans ((World.putObj_heap_other (by omega)).trans hk1)
                    have hbe : Below w.heap.size w (((Z2.putObj D3 (.deferred none)).putObj D2 (.deferred none)).putObj D (.deferred none)) := ((hb0.trans (belowK_b (w := w) (Nat.le_refl _) Z2 D3 _ (.deferred none) (by omega) hk3 rfl rfl)).trans (belowK_b (w := w) (Nat.le_refl _) _ D2 _ (.deferred none) (by omega) hk22 rfl rfl)).trans (belowK_b (w := w) (Nat.le_refl _) _ D _ (.deferred none) (by omega) hk12 rfl rfl)
                    have hce : (((Z2.putObj D3 (.deferred none)).putObj D2 (.deferred none)).putObj D (.deferred none)).cell? ⟨w.heap.size + 1, 0, none⟩ = some (.bool true) := cell_kept (cell_kept (cell_kept hc0 (grownBy_putObj' _ _ _) (fun r e => by cases e; exact ⟨_, hk3, rfl⟩)) (grownBy_putObj' _ _ _) (fun r e => by cases e; exact ⟨_, hk22, rfl⟩)) (grownBy_putObj' _ _ _) (fun r e => by cases e; exact ⟨_, hk12, rfl⟩)
                    refine ⟨by simp, .inl ⟨_, _, rfl, run_takeDeferred hk3, ?_⟩⟩
                    refine ⟨by simp, .inl ⟨_, _, rfl, run_takeDeferred hk22, ?_⟩⟩
                    refine ⟨by simp, .inl ⟨_, _, rfl, run_takeDeferred hk12, ?_⟩⟩
                    exact ⟨_, results_cellB rfl _ _ rfl hce, rfl, hbe⟩
                  case stop3 =>
                    rintro D3 c' pre Z hD3 _ ⟨⟨⟨q, hpr, hc⟩, hb⟩, rfl⟩ hK3
                    have HEB := Lib.hid hb
                    have HEK := Lib.hid hK3
                    have hqN := cell_belowT (cell_belowT HCX.out.1 HXA.out hNR) hb (by omega)
                    have hqT := cell_belowT (cell_belowT HTX.out HXA.out (by have := HTN.out; omega)) hb (by have := HTN.out; omega)
                    have hqR := cell_belowT HRC.out hb (by omega)
                    obtain ⟨hq6, hf6⟩ := keep2 (keep2 HR6.out HXA.out (by have h1 := HBT.out; have h2 := HBT2.out; have h3 := HMT.out; have h4 := HTN.out; omega)) hb (by have h1 := HBT.out; have h2 := HBT2.out; have h3 := HMT.out; have h4 := HTN.out; omega)
                    have HQ6Z := Lib.hid hq6
                    have h40 := H40.out
                    have HZ1 : Hid ((Z.heap[D]? = some (.deferred (some [])) ∧ D < N) ∧ Z.heap[D2]? = some (.deferred (some [])) ∧ N < D2 ∧ D2 < R ∧ R + 1 < D3) := by
                      have h1 := HDX.out
                      have h2 := HRR.out
                      exact ⟨⟨(hb.block D (by omega)).trans ((HXA.out.block D (by omega)).trans h1.1.1), h1.1.2⟩, (hb.block D2 (by omega)).trans ((HXA.out.block D2 (by omega)).trans h1.2.1), HD2.out, by omega, by omega⟩
                    have HWZ : Hid (Below w.heap.size w Z) := bel3 HWX2.out hb (by have h1 := HWX2.out.size; omega)
                    have HW6 : Hid (w.heap.size + 1 < M) := by have h1 := HBT.out; have h2 := HBT2.out; show _ < _; omega
                    clear hb hK3
                    gi_wp2
                    have hW0 := HD.out
                    have hW1 := HW6.out
                    have hW2 := HMT.out
                    have hW3 := HTN.out
                    have hZ1 := HZ1.out
                    have hk3 : (Z.setCell ⟨w.heap.size + 1, 0, none⟩ (.bool true)).heap[D3]? = some (.deferred (some [])) := ((grownBy_setCell' Z (w.heap.size + 1) (.bool true)).block D3 (Array.getElem?_eq_some_iff.1 HEK.out).1 (fun e => by have := Option.some.inj e; omega)).trans HEK.out
                    have hk2 : (Z.setCell ⟨w.heap.size + 1, 0, none⟩ (.bool true)).heap[D2]? = some (.deferred (some [])) := ((grownBy_setCell' Z (w.heap.size + 1) (.bool true)).block D2 (Array.getElem?_eq_some_iff.1 hZ1.2.1).1 (fun e => by have := Option.some.inj e; omega)).trans hZ1.2.1
                    have hk1 : (Z.setCell ⟨w.heap.size + 1, 0, none⟩ (.bool true)).heap[D]? = some (.deferred (some [])) := ((grownBy_setCell' Z (w.heap.size + 1) (.bool true)).block D (Array.getElem?_eq_some_iff.1 hZ1.1.1).1 (fun e => by have := Option.some.inj e; omega)).trans hZ1.1.1
                    have hb0 : Below w.heap.size w (Z.setCell ⟨w.heap.size + 1, 0, none⟩ (.bool true)) := HWZ.out.setCell (p := ⟨w.heap.size + 1, 0, none⟩) (by show w.heap.size ≤ w.heap.size + 1; omega) _
                    have hc0 : (Z.setCell ⟨w.heap.size + 1, 0, none⟩ (.bool true)).cell? ⟨w.heap.size + 1, 0, none⟩ = some (.bool true) := World.cell?_setCell_same' _ _ _ (by rw [HQ6Z.out]; rfl)
                    generalize Z.setCell ⟨w.heap.size + 1, 0, none⟩ (.bool true) = Z2 at hk1 hk2 hk3 hb0 hc0 ⊢
                    have hk22 : (Z2.putObj D3 (.deferred none)).heap[D2]? = some (.deferred (some [])) := (World.putObj_heap_other (by omega)).trans hk2
                    have hk12 : ((Z2.putObj D3 (.deferred none)).putObj D2 (.deferred none)).heap[D]? = some (.deferred (some [])) := (World.putObj_heap_other (by omega)).trans ((World.putObj_heap_other (by omega)).trans hk1)
                    have hbe : Below w.heap.size w (((Z2.putObj D3 (.deferred none)).putObj D2 (.deferred none)).putObj D (.deferred none)) := ((hb0.trans (belowK_b (w := w) (Nat.le_refl _) Z2 D3 _ (.deferred none) (by omega) hk3 rfl rfl)).trans (belowK_b (w := w) (Nat.le_refl _) _ D2 _ (.deferred none) (by omega) hk22 rfl rfl)).trans (belowK_b (w := w) (Nat.le_refl _) _ D _ (.deferred none) (by omega) hk12 rfl rfl)
                    have hce : (((Z2.putObj D3 (.deferred none)).putObj D2 (.deferred none)).putObj D (.deferred none)).cell? ⟨w.heap.size + 1, 0, none⟩ = some (.bool true) := cell_kept (cell_kept (cell_kept hc0 (grownBy_putObj' _ _ _) (fun r e => by cases e; exact ⟨_, hk3, rfl⟩)) (grownBy_putObj' _ _ _) (fun r e => by cases e; exact ⟨_, hk22, rfl⟩)) (grownBy_putObj' _ _ _) (fun r e => by cases e; exact ⟨_, hk12, rfl⟩)
                    refine ⟨by simp, .inl ⟨_, _, rfl, run_takeDeferred hk3, ?_⟩⟩
                    refine ⟨by simp, .inl ⟨_, _, rfl, run_takeDeferred hk22, ?_⟩⟩
                    refine ⟨by simp, .inl ⟨_, _, rfl, run_takeDeferred hk12, ?_⟩⟩
                    exact ⟨_, results_cellB rfl _ _ rfl hce, rfl, hbe⟩
                case stop2 =>
                  rintro D2 c' pre Y hD2 _ h _
                  exact h.elim
      case stop =>
        rintro D c' pre X hD _ h _
        exact h.elim
    | _ => exact hq.elim
theorem treeTold_any (a : Option Addr) (n c : Nat) (h1 p1 n1 : Int) (t1 : ByteArray) (many : Int) (w : World) (hL : Laid w) (hI : IntsIn w a n c) (hx1 : t1.size ≤ maxLen) :
    Calls Tryd.prog 7 #[.slice a n c, turnV h1 p1 n1 t1, .int .i64 many] w fun e w' => e = .returned (.bool true) ∧ Below w.heap.size w w' := callsIn_wide.1 (told_in a n c h1 p1 n1 t1 many w hL hI hx1)
end Go.Proofs.YteiialpecaebdaaDoor
