/-
  append of steps onto a row of the call's own, whatever is appended: at a plain list, and at a step of a region that draws.
-/
import Derived.Test.YteiialpecaebdaaDoorWt
import Derived.Maps.AppendAt
import Derived.Deep.AppendSrc
import Derived.Deep.RegionLaw
set_option linter.unusedVariables false
set_option linter.unusedSimpArgs false
namespace Go.Proofs.YteiialpecaebdaaDoor
open Go.RowKit
open Go.Proofs
open Tree

theorem info_iS : ∃ i, Tryd.prog.info? 35 = some i ∧ i.zero = some (.agg #[.int .i64 0, .int .i64 0, .int .i64 0, .int .i64 0, .int .i64 0, .string ⟨#[]⟩]) ∧ i.size = 6 ∧ i.bytes = 56 := by
  obtain ⟨i0, hi, hz0, hz1, hz2⟩ := info_parts info_S
  exact ⟨i0, hi, hz0, hz1, hz2⟩
theorem steps_one (t : List StepD) : ∀ u ∈ stepsL t, u.oneCell' = true := stepsL_one t
theorem run_app (w : World) (B : Nat) (ty : TypeId) (v : Value) (t : List StepD) (hown : Own w B v t) (hv : v ≠ .slice none 0 0) (ad : Option Addr) (m c : Nat) (u : List StepD) (hu : SlAt w ad u) (hm : u.length = m) (hl : t.length + m ≤ 100000) (hB : B ≤ w.heap.size) :
    ∃ v' w', (Builtin.append_ #[27, 27] ty #[v, .slice ad m c]).run Tryd.prog w = .ok v' w' ∧ Own w' B v' (t ++ u) ∧ w.grownBy w' v.ownBlock ∧ v' ≠ .slice none 0 0 ∧ (v'.ownBlock = v.ownBlock ∨ v'.ownBlock = some w.heap.size) := by
  obtain ⟨i0, hi, hz0, hz1, hz2⟩ := info_iS
  cases ad with
  | none =>
    have hu0 : u = [] := by
      rcases hu with h | ⟨g, o, h, _⟩
      · exact h
      · cases h
    subst hu0
    obtain rfl : m = 0 := hm.symm
    rcases hown.2 with ⟨rfl, _⟩ | ⟨g, cap, cur, rfl, hb, hg, hn, hcm, hcs, hx⟩
    · exact (hv rfl).elim
    · have h := run_append_room_src (P := Tryd.prog) (w := w) 27 27 ty 35 i0 Tryd.underlying27 hi g 0 t.length cap (.slice none 0 c) 0 [] (Src.ofNil w Tryd.underlying27 c) (by omega) (by simp) (by simp)
      refine ⟨_, _, h, ?_, ⟨rfl, rfl, rfl, Nat.le_refl _, fun _ _ _ => rfl⟩, by simp, .inl rfl⟩
      rw [List.append_nil]
      exact hown
  | some ad =>
    have hnews : ∀ j x, (stepsL u)[j]? = some x → w.cell? (ad.add j) = some x := by
      rcases hu with rfl | ⟨g, o, h, hr⟩
      · intro j x h; cases h
      · obtain rfl := Option.some.inj h
        exact cellsOf hr
    obtain ⟨v', w', h1, h2, h3, h4, h5⟩ := run_append_own_at (P := Tryd.prog) w B 27 ty 35 i0 _ 6 56 Tryd.underlying27 hi hz0 hz1 hz2 rfl (by decide) v t.length (stepsL t) hown ad m c (stepsL u) (by rw [stepsL_length, hm]) hnews (stepsL_one u) (by unfold maxLen; omega) (by omega) hB
    refine ⟨v', w', h1, ?_, h3, fun e => hv (h4.1 e).1, h5⟩
    show World.ownsRow _ _ _ _ _ _ _
    rw [List.length_append, hm, stepsL_append]
    exact h2
/-- A literal of one step lies in block L, which is not the row's own. -/
def LitAt (w : World) (v : Value) (L : Nat) (x : StepD) : Prop := w.rangeAt L 0 (stepL x) ∧ L < w.heap.size ∧ v.ownBlock ≠ some L
theorem LitAt.sl {w : World} {v : Value} {L : Nat} {x : StepD} (h : LitAt w v L x) : SlAt w (some ⟨L, 0, none⟩) [x] := .inr ⟨L, 0, rfl, by simpa [stepsL] using h.1⟩
theorem lit_kept {w w' : World} {v v' : Value} {L : Nat} {x : StepD} (h : LitAt w v L x) (hg : w.grownBy w' v.ownBlock) (ha : v'.ownBlock = v.ownBlock ∨ v'.ownBlock = some w.heap.size) : LitAt w' v' L x := by
  refine ⟨fun j u hj => ?_, Nat.lt_of_lt_of_le h.2.1 hg.size, ?_⟩
  · have h1 := h.1 j u hj
    have e := hg.block L h.2.1 (fun e => h.2.2 e.symm)
    simp only [World.cell?] at h1 ⊢
    rw [e]; exact h1
  · rcases ha with e | e
    · rw [e]; exact h.2.2
    · rw [e]; intro e; have := Option.some.inj e; have := h.2.1; omega
theorem lit_new {w : World} {B : Nat} {v : Value} {t : List StepD} (h : Own w B v t) (x : StepD) : LitAt (w.alloc (.cells (stepL x).toArray 35)) v w.heap.size x := by
  refine ⟨fun j u hj => ?_, by simp, fun e => ?_⟩
  · rw [Nat.zero_add]; exact cellNew w _ _ j u (by simpa using hj)
  · have := (World.ownsRow.lt h _ e).2; omega
theorem app_below {W w w' : World} {B : Nat} {v : Value} {t : List StepD} (hown : Own w B v t) (hb : Below B W w) (hB : B ≤ w.heap.size) (hg : w.grownBy w' v.ownBlock) : Below B W w' := hb.grown hg hB (fun q hq => own_ge hown q hq)
/-- At a step of a region that draws. -/
theorem step_app {ops : Array Oper} {o : Oper} {a : Act} {w : World} {K : Act → World → Prop} {Q : Exit → Act → World → Prop} {E : Prop} (s x : Operand)
    (ho : o.op = .call { callee := .builtin .append, args := #[s, x], argTypes := #[27, 27] }) (hw : Region.wanted o (yielded ops a.tmps) = true)
    (W : World) (B : Nat) (v : Value) (t : List StepD) (hown : Own w B v t) (hv : v ≠ .slice none 0 0) (hb : Below B W w) (hB : B ≤ w.heap.size)
    (ad : Option Addr) (m c : Nat) (u : List StepD) (hu : SlAt w ad u) (hm : u.length = m) (hl : t.length + m ≤ 100000)
    (hs : a.eval s = v) (hx : a.eval x = .slice ad m c)
    (h : ∀ v' w', Own w' B v' (t ++ u) → v' ≠ .slice none 0 0 → Below B W w' → B ≤ w'.heap.size → (∀ L y, LitAt w v L y → LitAt w' v' L y) → K (a.put o.dst v') w') :
    if Region.wanted o (yielded ops a.tmps) = true then Oper.wp Tryd.prog o a w K Q else E := by
  rw [if_pos hw]
  obtain ⟨v', w', h1, h2, h3, h4, h5⟩ := run_app w B o.type v t hown hv ad m c u hu hm hl hB
  unfold Oper.wp
  simp [execOp, ho, resolve, invoke, builtin, hs, hx, h1, Result.andThen]
  exact h v' w' h2 h4 (app_below hown hb hB h3) (Nat.le_trans hB h3.size) (fun L y hL => lit_kept hL h3 h5)
/-- At a plain list. -/
theorem list_app {ops : Array Oper} {rest : List Oper} {o : Oper} {a : Act} {w : World} {Q : Exit → Act → World → Prop} (hgd : o.guard = none) (s x : Operand)
    (ho : o.op = .call { callee := .builtin .append, args := #[s, x], argTypes := #[27, 27] })
    (W : World) (B : Nat) (v : Value) (t : List StepD) (hown : Own w B v t) (hv : v ≠ .slice none 0 0) (hb : Below B W w) (hB : B ≤ w.heap.size)
    (ad : Option Addr) (m c : Nat) (u : List StepD) (hu : SlAt w ad u) (hm : u.length = m) (hl : t.length + m ≤ 100000)
    (hs : a.eval s = v) (hx : a.eval x = .slice ad m c)
    (h : ∀ v' w', Own w' B v' (t ++ u) → v' ≠ .slice none 0 0 → Below B W w' → B ≤ w'.heap.size → (∀ L y, LitAt w v L y → LitAt w' v' L y) → wpList Tryd.prog ops Q rest (a.put o.dst v') w') :
    wpList Tryd.prog ops Q (o :: rest) a w :=
  wpList_plain hgd fun _ hK => by
    obtain ⟨v', w', h1, h2, h3, h4, h5⟩ := run_app w B o.type v t hown hv ad m c u hu hm hl hB
    unfold Oper.wp
    simp [execOp, ho, resolve, invoke, builtin, hs, hx, h1, Result.andThen]
    exact hK _ _ (h v' w' h2 h4 (app_below hown hb hB h3) (Nat.le_trans hB h3.size) (fun L y hL => lit_kept hL h3 h5))
/-! The start of a literal's region: what is made first. -/
section
variable (w : World)
abbrev emptyO : Obj := .cells #[] 35
abbrev stepO (x : StepD) : Obj := .cells (stepL x).toArray 35
abbrev emV (g : Nat) : Value := .slice (some ⟨g, 0, none⟩) 0 0
theorem size_dr : w.drew.heap.size = w.heap.size := rfl
theorem e1 : Own (w.drew.alloc emptyO) w.heap.size (emV w.heap.size) [] ∧ Below w.heap.size w (w.drew.alloc emptyO) ∧ w.heap.size ≤ (w.drew.alloc emptyO).heap.size :=
  ⟨own_made w.drew w.heap.size (Nat.le_refl _), (Below.refl _ w).drew.alloc (Nat.le_refl _) _, by simp⟩
theorem e2 (x : StepD) : Own ((w.drew.alloc emptyO).alloc (stepO x)) w.heap.size (emV w.heap.size) [] ∧ Below w.heap.size w ((w.drew.alloc emptyO).alloc (stepO x)) ∧ w.heap.size ≤ ((w.drew.alloc emptyO).alloc (stepO x)).heap.size ∧ LitAt ((w.drew.alloc emptyO).alloc (stepO x)) (emV w.heap.size) (w.heap.size + 1) x :=
  ⟨(e1 w).1.alloc _, (e1 w).2.1.alloc (by simp) _, by simp; omega, by have := lit_new (e1 w).1 x; simpa using this⟩
theorem e3 (x : StepD) : Own ((w.drew.alloc (stepO x)).alloc emptyO) w.heap.size (emV (w.heap.size + 1)) [] ∧ Below w.heap.size w ((w.drew.alloc (stepO x)).alloc emptyO) ∧ w.heap.size ≤ ((w.drew.alloc (stepO x)).alloc emptyO).heap.size ∧ LitAt ((w.drew.alloc (stepO x)).alloc emptyO) (emV (w.heap.size + 1)) w.heap.size x := by
  have h := own_made (w.drew.alloc (stepO x)) w.heap.size (by simp)
  have e : (w.drew.alloc (stepO x)).heap.size = w.heap.size + 1 := by simp
  rw [e] at h
  refine ⟨h, ((Below.refl _ w).drew.alloc (Nat.le_refl _) _).alloc (by simp) _, by simp; omega, fun j u hj => ?_, by simp; omega, ?_⟩
  · rw [Nat.zero_add]
    exact cellAlloc _ (cellNew w.drew _ _ j u (by simpa using hj))
  · simp [Value.ownBlock]
end
theorem own_alloc {w : World} {B : Nat} {v : Value} {t : List StepD} (h : Own w B v t) (o : Obj) : Own (w.alloc o) B v t := h.alloc o
end Go.Proofs.YteiialpecaebdaaDoor
