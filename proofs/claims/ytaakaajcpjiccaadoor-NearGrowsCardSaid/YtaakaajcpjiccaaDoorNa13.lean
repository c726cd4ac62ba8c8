/-
  A range over an iterator that ranges over an iterator itself: the contract, its premise on the caller's invariant the wider one (it abides the turn of whatever block that is no cells and lies beyond the world of the call), and the caller's law over it.
-/
import Derived.RangeFuncNested
import Derived.RangeFuncBound
import Derived.RangeFuncCalls
import Derived.RangeFuncLeaves
import Derived.Shelf.Abstract
import Derived.WalkKit
import Derived.OwnWalkIn
import Derived.TacticsInMore
import Derived.LoopNIn
import Derived.LoopIn
import Derived.RangeFuncBox
import Derived.Test.YtaakaajcpjiccaaDoorNa12
set_option linter.unusedVariables false
set_option linter.unusedSimpArgs false
namespace Go.Proofs.YtaakaajcpjiccaaDoor
open Go.RowKit
open Go.Proofs

section
variable {F : Fence} {n : Nat} {P : Program}
/-- What an iterator owes: all of S's rounds with the caller's invariant J behind the last, or a part of them with Jx; J and Jx abide what the iterator's own loops do to their records. -/
def SeqW {α : Type} (F : Fence) (n : Nat) (P : Program) (g : Nat) (lb : Array Value) (encs : α → Array Value) (Kp : World → World → Prop) (S Sp : List α → Prop) (N : Nat) (w : World) : Prop :=
  ∀ (l : Nat) (J Jx : List α → World → Prop) (W : World), Below w.heap.size w W → w.heap.size + 2 ≤ W.heap.size → OwnFrom W.heap.size J → OwnFrom W.heap.size Jx →
    (∀ pre x W1, J pre W1 → pre.length < N → YieldAt F (n - 1) P l (encs x) W1 fun e W' =>
      (e = .returned (.bool true) ∧ J (pre ++ [x]) W' ∧ Kp W1 W') ∨ (e = .returned (.bool false) ∧ Jx (pre ++ [x]) W' ∧ Kp W1 W')) →
    J [] W →
    CallsIn F n P g (#[.func (.yield l) #[] #[]] ++ lb) W fun e W' => (∃ v, e = .returned v) ∧ ((∃ xs, S xs ∧ J xs W') ∨ (∃ pre, Sp pre ∧ Jx pre W'))
theorem own_abides {β : Type} {B : Nat} {J : β → World → Prop} (h : OwnFrom B J) : AbidesFrom B J := fun s W W' row hs hg hr =>
  h s W W' row hs hg fun r e => by
    obtain ⟨hB, o, ho, hw⟩ := hr r e
    exact ⟨hB, o, ho, Obj.not_cells_of_walk hw⟩
/-- The kit's contract gives it. -/
theorem SeqW.of_K {α : Type} {g : Nat} {lb : Array Value} {encs : α → Array Value} {Kp : World → World → Prop} {S Sp : List α → Prop} {N : Nat} {w : World} (h : SeqStopsK F n P g lb encs Kp S Sp N w) : SeqW F n P g lb encs Kp S Sp N w :=
  fun l J Jx W hb _ hJ hJx hY h0 => h l J Jx W hb (own_abides hJ) (own_abides hJx) (fun pre x W1 hj hl => (hY pre x W1 hj hl).mono fun e W' he => he.imp id (fun ⟨a, b, _⟩ => ⟨a, b⟩)) h0
/-- A round of another loop may be run within a round. -/
theorem yield_inRound {m l l' : Nat} {args : Array Value} {W : World} {R : Ending → World → Prop} (h : YieldAt F m P l args W R) : YieldAt (F.inRound l') m P l args W R := h
theorem SeqW.kp {α : Type} {g : Nat} {lb : Array Value} {encs : α → Array Value} {Kp Kp' : World → World → Prop} {S Sp : List α → Prop} {N : Nat} {w : World} (h : SeqW F n P g lb encs Kp S Sp N w) (hk : ∀ A B, Kp' A B → Kp A B) : SeqW F n P g lb encs Kp' S Sp N w :=
  fun l J Jx W hb hz hJ hJx hY h0 => h l J Jx W hb hz hJ hJx (fun pre x W1 hj hl => (hY pre x W1 hj hl).mono fun e W' he => he.imp (fun ⟨a, b, c⟩ => ⟨a, b, hk _ _ c⟩) (fun ⟨a, b, c⟩ => ⟨a, b, hk _ _ c⟩)) h0
theorem far_same {A B : World} {row : Option Nat} {k W1 : Nat} {o : Obj} (hg : A.grownBy B row) (hr : ∀ r, row = some r → W1 ≤ r) (hk : k < W1) (h : A.heap[k]? = some o) : B.heap[k]? = some o :=
  (hg.block k (Array.getElem?_eq_some_iff.1 h).1 (fun e => by have := hr k e.symm; omega)).trans h
theorem yield_any {m m' l : Nat} {args : Array Value} {W : World} {R : Ending → World → Prop} (hd : F.depth = none) (h : YieldAt F m P l args W R) : YieldAt F m' P l args W R := by
  obtain ⟨fn, tmps, assign, body, hy, hf, hR⟩ := h
  exact ⟨fn, tmps, assign, body, hy, hf, fun c cs _ => hR c cs (fun d e => by rw [hd] at e; cases e)⟩
/-- How the body of a round may be left. -/
def postW {α : Type} (B : Nat) (Kp : World → World → Prop) (I : List α → World → Prop) (Ix : Code → List α → World → Prop) (xs : List α) (W : World) : Exit → Act → World → Prop
  | .normal, _, W' => KeepsFrom B W W' ∧ Kp W W' ∧ I xs W'
  | .ret, _, W' => KeepsFrom B W W' ∧ Kp W W' ∧ Ix .ret xs W'
  | .exit id, _, W' => KeepsFrom B W W' ∧ Kp W W' ∧ Ix (.exit id) xs W'
  | .goto t, _, W' => KeepsFrom B W W' ∧ Kp W W' ∧ Ix (.goto t) xs W'
  | .panic _, _, _ => False
  | .outgrown, _, _ => False
theorem keepsMono {B B' : Nat} {A C : World} (h : KeepsFrom B A C) (hB : B ≤ B') : KeepsFrom B' A C := ⟨h.size, fun k o hk => h.same k o (Nat.le_trans hB hk)⟩
/-- **THE CALLER's LAW.** The book-keeping of the loop (its record, the block for the rounds' deferred calls) lies in two blocks of its own; what the iterator turns lies beyond both. -/
theorem range_wide {α : Type} {g : Operand} {ps : Array Tmp} {assign body : Code} {Q : Exit → Act → World → Prop} {a : Act} {w : World}
    (hro : F.round = none) (h1 : 1 ≤ n) {gf : Nat} {lb : Array Value} (hg : a.eval g = .func (.func gf) #[] lb) (hF : F.fn gf) (eg : ∀ args w, (callFunc gf args).run P w = .ok (.enter gf args) w)
    {encs : α → Array Value} {Kp : World → World → Prop} {S Sp : List α → Prop} {N : Nat} {w0 : World} (hseq : SeqW F (n - 1) P gf lb encs Kp S Sp N w0)
    (hKt : ∀ {A B C : World}, Kp A B → Kp B C → Kp A C) (hKb : ∀ (W : World) (o o' : Obj), W.heap[w.heap.size + 1]? = some o → o.isCells = false → Kp W (W.putObj (w.heap.size + 1) o')) (hb0 : Below w0.heap.size w0 w) (hps : ∀ x, (encs x).size = ps.size)
    (I : List α → World → Prop) (Ix : Code → List α → World → Prop) (hI : OwnFrom w.heap.size I) (hIx : ∀ c, OwnFrom w.heap.size (Ix c)) (h0 : I [] w) (Ax : α → Act → World → Prop) (hAx : ∀ x a', OwnFrom w.heap.size (fun (_ : Unit) W => Ax x a' W))
    (hassign : ∀ (l : Nat) (pre : List α) (x : α) (W : World) (K : Act → World → Prop), I pre W → (∀ a' W', KeepsFrom w.heap.size W W' → Kp W W' → I pre W' → Ax x a' W' → K a' W') →
      assign.wpIn (F.inRound l) (n - 1 - 1) P (Exit.then K (fun _ _ _ => False)) { tmps := (ps.zip (encs x)).foldl (fun t (p, v) => t.setIfInBounds p v) a.tmps, defers := [] } W)
    (hbody : ∀ (l : Nat) (pre : List α) (x : α) (a' : Act) (W : World), I pre W → Ax x a' W → pre.length < N → body.wpIn (F.inRound l) (n - 1 - 1) P (postW w.heap.size Kp I Ix (pre ++ [x]) W) a' W)
    (hdone : ∀ (D : Nat) (xs : List α) (W : World), w.heap.size ≤ D → S xs → I xs W → W.heap[D]? = some (.deferred (some [])) → Q .normal { a with defers := { target := .collected D, args := #[] } :: a.defers } W)
    (hstop : ∀ (D : Nat) (c : Code) (pre : List α) (W : World), w.heap.size ≤ D → Sp pre → Ix c pre W → W.heap[D]? = some (.deferred (some [])) → c.wpIn F n P Q { a with defers := { target := .collected D, args := #[] } :: a.defers } W) :
    (Code.rangeFunc g ps assign body).wpIn F n P Q a w := by
  refine wpIn_rangeFunc ?_
  intro fn hfn
  rw [hro]
  -- the record in its states
  obtain ⟨rec, hrec⟩ : ∃ rec : LoopState → Option Code → Loop, rec = fun st pe => { state := st, pending := pe, fn, tmps := a.tmps, params := ps, assign, body, defers := w.heap.size } := ⟨_, rfl⟩
  have hpar : ∀ st pe, (rec st pe).params = ps := fun st pe => by rw [hrec]
  obtain ⟨V, hV⟩ : ∃ V, (w.alloc (.deferred (some []))).alloc (.loop (rec .ready none)) = V := ⟨_, rfl⟩
  have hVs : V.heap.size = w.heap.size + 1 + 1 := by rw [← hV]; simp
  have hrecV : V.heap[w.heap.size + 1]? = some (.loop (rec .ready none)) := by
    rw [← hV]
    have := World.alloc_heap_new (w.alloc (.deferred (some []))) (.loop (rec .ready none))
    rwa [World.size_alloc] at this
  have hdefV : V.heap[w.heap.size]? = some (.deferred (some [])) := by
    rw [← hV]
    exact (Below.heap_alloc _ _ _ (by simp)).trans (World.alloc_heap_new w _)
  have hIV : I [] V := by rw [← hV]; exact hI.alloc _ (hI.alloc _ h0)
  have hbV : Below w0.heap.size w0 V := by
    rw [← hV]
    exact hb0.trans ((((Below.refl _ w).alloc (Nat.le_refl _) _).alloc (by simp) _).mono hb0.size)
  refine ⟨w.heap.size + 1, [{ target := .collected w.heap.size, args := #[] }], V, { target := .fn (.func gf) lb, args := #[.func (.yield (w.heap.size + 1)) #[] #[]] }, V, gf,
    #[.func (.yield (w.heap.size + 1)) #[] #[]] ++ lb, V, ?enter, ?what, ?lead, ?call, fun _ => h1, ?run⟩
  case enter => rw [← hV, hrec]; exact run_enterLoop_outer _ _ _ _ _
  case what =>
    simp only [resolve, hg]
    simp [go_sem]
  case lead =>
    intro f' hf'
    simp [Target.leads] at hf'
    subst hf'
    exact hF
  case call => simp [invoke, go_sem, eg]
  case run =>
    have wide : ∀ {A : World} {row : Option Nat}, (∀ r, row = some r → V.heap.size ≤ r ∧ ∃ o : Obj, A.heap[r]? = some o ∧ o.isCells = false) → ∀ r, row = some r → w.heap.size ≤ r ∧ ∃ o : Obj, A.heap[r]? = some o ∧ o.isCells = false :=
      fun h r e => by obtain ⟨hB, o⟩ := h r e; exact ⟨by omega, o⟩
    refine (hseq (w.heap.size + 1)
      (fun pre W => I pre W ∧ W.heap[w.heap.size + 1]? = some (.loop (rec .ready none)) ∧ W.heap[w.heap.size]? = some (.deferred (some [])))
      (fun pre W => ∃ c, Ix c pre W ∧ W.heap[w.heap.size + 1]? = some (.loop (rec .done (some c))) ∧ W.heap[w.heap.size]? = some (.deferred (some [])))
      V hbV (by have := hb0.size; omega)
      (fun s A B row hs hg' hr => ⟨hI s A B row hs.1 hg' (wide hr), far_same hg' (fun r e => (hr r e).1) (by omega) hs.2.1, far_same hg' (fun r e => (hr r e).1) (by omega) hs.2.2⟩)
      (fun s A B row hs hg' hr => by
        obtain ⟨c, hc, hl, hk⟩ := hs
        exact ⟨c, hIx c s A B row hc hg' (wide hr), far_same hg' (fun r e => (hr r e).1) (by omega) hl, far_same hg' (fun r e => (hr r e).1) (by omega) hk⟩)
      ?round ⟨hIV, hrecV, hdefV⟩).mono ?behind
    case round =>
      rintro pre x W ⟨hi, hl, hk⟩ hlen
      have hy := run_yield (P := P) (args := encs x) hl (by rw [hpar]; exact hps x)
      rw [hrec] at hy
      refine ⟨fn, _, assign, body, hy, roundIn_of_wpIn hfn (hassign _ pre x W _ hi ?_)⟩
      clear hy
      intro a' W2 hkf hkp hi2 hax
      have hl2 := hkf.same _ _ (by omega) hl rfl
      have hk2 := hkf.same _ _ (Nat.le_refl _) hk rfl
      have hlt : w.heap.size + 1 < W2.heap.size := (Array.getElem?_eq_some_iff.1 hl2).1
      refine ⟨_, run_beginRound hl2 (by rw [hrec]), ?_⟩
      obtain ⟨busy, hbusy⟩ : ∃ b : Loop, { rec .ready none with state := .busy } = b := ⟨_, rfl⟩
      rw [hbusy]
      have hl3 : (W2.putObj (w.heap.size + 1) (.loop busy)).heap[w.heap.size + 1]? = some (.loop busy) := World.putObj_heap_same hlt
      have hk3 : (W2.putObj (w.heap.size + 1) (.loop busy)).heap[w.heap.size]? = some (.deferred (some [])) := (World.putObj_heap_other (by omega)).trans hk2
      have hp3 : Kp W2 (W2.putObj (w.heap.size + 1) (.loop busy)) := hKb _ _ _ hl2 rfl
      refine wpIn_mono (hbody _ pre x a' _ (hI.putObj _ hi2 (by omega) hl2 rfl) ((hAx x a').putObj (s := ()) _ hax (by omega) hl2 rfl) hlen) ?_
      have fin : ∀ (jump : Option Code) (W3 : World), KeepsFrom w.heap.size (W2.putObj (w.heap.size + 1) (.loop busy)) W3 →
          (Instr.endRound (w.heap.size + 1) jump).run P W3 = .ok (.bool jump.isNone) (W3.putObj (w.heap.size + 1) (.loop (rec (if jump.isNone then .ready else .done) jump))) ∧
          W3.heap[w.heap.size + 1]? = some (.loop busy) ∧
          (W3.putObj (w.heap.size + 1) (.loop (rec (if jump.isNone then .ready else .done) jump))).heap[w.heap.size + 1]? = some (.loop (rec (if jump.isNone then .ready else .done) jump)) ∧
          (W3.putObj (w.heap.size + 1) (.loop (rec (if jump.isNone then .ready else .done) jump))).heap[w.heap.size]? = some (.deferred (some [])) := fun jump W3 hkW => by
        have hl4 := hkW.same _ _ (by omega) hl3 rfl
        have hrun := run_endRound (P := P) jump hl4
        rw [← hbusy, hrec] at hrun
        rw [hrec]
        exact ⟨hrun, hl4, World.putObj_heap_same (Array.getElem?_eq_some_iff.1 hl4).1, (World.putObj_heap_other (by omega)).trans (hkW.same _ _ (Nat.le_refl _) hk3 rfl)⟩
      rintro e a3 W3 hp
      cases e with
      | normal =>
        obtain ⟨hkW, hkp3, hi3⟩ := hp
        obtain ⟨hr, hl4, hl5, hk5⟩ := fin none W3 hkW
        exact ⟨_, _, hr, .inl ⟨rfl, ⟨hI.putObj _ hi3 (by omega) hl4 rfl, hl5, hk5⟩, hKt hkp (hKt (hKt hp3 hkp3) (hKb _ _ _ hl4 rfl))⟩⟩
      | ret =>
        obtain ⟨hkW, hkp3, hi3⟩ := hp
        obtain ⟨hr, hl4, hl5, hk5⟩ := fin (some .ret) W3 hkW
        exact ⟨_, _, hr, .inr ⟨rfl, ⟨.ret, (hIx _).putObj _ hi3 (by omega) hl4 rfl, hl5, hk5⟩, hKt hkp (hKt (hKt hp3 hkp3) (hKb _ _ _ hl4 rfl))⟩⟩
      | exit id =>
        obtain ⟨hkW, hkp3, hi3⟩ := hp
        obtain ⟨hr, hl4, hl5, hk5⟩ := fin (some (.exit id)) W3 hkW
        exact ⟨_, _, hr, .inr ⟨rfl, ⟨.exit id, (hIx _).putObj _ hi3 (by omega) hl4 rfl, hl5, hk5⟩, hKt hkp (hKt (hKt hp3 hkp3) (hKb _ _ _ hl4 rfl))⟩⟩
      | goto t =>
        obtain ⟨hkW, hkp3, hi3⟩ := hp
        obtain ⟨hr, hl4, hl5, hk5⟩ := fin (some (.goto t)) W3 hkW
        exact ⟨_, _, hr, .inr ⟨rfl, ⟨.goto t, (hIx _).putObj _ hi3 (by omega) hl4 rfl, hl5, hk5⟩, hKt hkp (hKt (hKt hp3 hkp3) (hKb _ _ _ hl4 rfl))⟩⟩
      | panic ch => exact hp.elim
      | outgrown => exact hp.elim
    case behind =>
      rintro e W2 ⟨⟨v, rfl⟩, hend⟩
      rcases hend with ⟨xs, hS, hi, hl, hk⟩ | ⟨pre, hSp, c, hi, hl, hk⟩
      · have hrun := run_endLoop (P := P) hl (by rw [hrec]; simp)
        rw [hrec] at hrun
        exact ⟨none, _, hrun, hdone _ xs _ (Nat.le_refl _) hS (hI.putObj _ hi (by omega) hl rfl) ((World.putObj_heap_other (by omega)).trans hk)⟩
      · have hrun := run_endLoop (P := P) hl (by rw [hrec]; simp)
        rw [hrec] at hrun
        exact ⟨some c, _, hrun, hstop _ c pre _ (Nat.le_refl _) hSp ((hIx c).putObj _ hi (by omega) hl rfl) ((World.putObj_heap_other (by omega)).trans hk)⟩
/-- A range whose loop has no variable to assign. -/
theorem range_skip {α : Type} {g : Operand} {ps : Array Tmp} {body : Code} {Q : Exit → Act → World → Prop} {a : Act} {w : World}
    (hro : F.round = none) (h1 : 1 ≤ n) {gf : Nat} {lb : Array Value} (hg : a.eval g = .func (.func gf) #[] lb) (hF : F.fn gf) (eg : ∀ args w, (callFunc gf args).run P w = .ok (.enter gf args) w)
    {encs : α → Array Value} {Kp : World → World → Prop} {S Sp : List α → Prop} {N : Nat} {w0 : World} (hseq : SeqW F (n - 1) P gf lb encs Kp S Sp N w0)
    (hKr : ∀ A : World, Kp A A) (hKt : ∀ {A B C : World}, Kp A B → Kp B C → Kp A C) (hKb : ∀ (W : World) (o o' : Obj), W.heap[w.heap.size + 1]? = some o → o.isCells = false → Kp W (W.putObj (w.heap.size + 1) o')) (hb0 : Below w0.heap.size w0 w) (hps : ∀ x, (encs x).size = ps.size)
    (I : List α → World → Prop) (Ix : Code → List α → World → Prop) (hI : OwnFrom w.heap.size I) (hIx : ∀ c, OwnFrom w.heap.size (Ix c)) (h0 : I [] w)
    (hbody : ∀ (l : Nat) (pre : List α) (x : α) (W : World), I pre W → pre.length < N → body.wpIn (F.inRound l) (n - 1 - 1) P (postW w.heap.size Kp I Ix (pre ++ [x]) W) { tmps := (ps.zip (encs x)).foldl (fun t (p, v) => t.setIfInBounds p v) a.tmps, defers := [] } W)
    (hdone : ∀ (D : Nat) (xs : List α) (W : World), w.heap.size ≤ D → S xs → I xs W → W.heap[D]? = some (.deferred (some [])) → Q .normal { a with defers := { target := .collected D, args := #[] } :: a.defers } W)
    (hstop : ∀ (D : Nat) (c : Code) (pre : List α) (W : World), w.heap.size ≤ D → Sp pre → Ix c pre W → W.heap[D]? = some (.deferred (some [])) → c.wpIn F n P Q { a with defers := { target := .collected D, args := #[] } :: a.defers } W) :
    (Code.rangeFunc g ps Code.skip body).wpIn F n P Q a w :=
  range_wide hro h1 hg hF eg hseq hKt hKb hb0 hps I Ix hI hIx h0 (fun x a' _ => a' = { tmps := (ps.zip (encs x)).foldl (fun t (p, v) => t.setIfInBounds p v) a.tmps, defers := [] }) (fun _ _ _ _ _ _ h _ _ => h)
    (fun l pre x W K hi hK => by
      exact wpIn_skip (hK _ W (KeepsFrom.refl _ _) (hKr W) hi rfl))
    (fun l pre x a' W hi ha hl => by subst ha; exact hbody l pre x W hi hl) hdone hstop
end
/-- What a round of the caller keeps: all cells but those of its own boxes bx. -/
def KeepC (bx : List Nat) (A B : World) : Prop := A.heap.size ≤ B.heap.size ∧ ∀ k o, k ∉ bx → A.heap[k]? = some o → o.isCells = true → B.heap[k]? = some o
theorem KeepC.refl (bx : List Nat) (A : World) : KeepC bx A A := ⟨Nat.le_refl _, fun _ _ _ h _ => h⟩
theorem KeepC.trans {bx : List Nat} {A B C : World} (h : KeepC bx A B) (k : KeepC bx B C) : KeepC bx A C := ⟨Nat.le_trans h.1 k.1, fun i o hi ho hc => k.2 i o hi (h.2 i o hi ho hc) hc⟩
theorem KeepC.alloc {bx : List Nat} {A B : World} (h : KeepC bx A B) (o : Obj) : KeepC bx A (B.alloc o) :=
  ⟨Nat.le_trans h.1 (by simp), fun k o' hk ho hc => by
    have := h.2 k o' hk ho hc
    rw [← this]
    exact heap_alloc_old B o k (Array.getElem?_eq_some_iff.1 this).1⟩
theorem KeepC.putObj {bx : List Nat} {A : World} {l : Nat} {o : Obj} (o' : Obj) (h : A.heap[l]? = some o) (hc : o.isCells = false) : KeepC bx A (A.putObj l o') :=
  ⟨by simp, fun k u hk hu huc => by
    refine (World.putObj_heap_other (fun e => ?_)).trans hu
    subst e
    rw [h] at hu
    cases hu
    rw [hc] at huc
    cases huc⟩
theorem KeepC.cell {bx : List Nat} {A B : World} (h : KeepC bx A B) {k o : Nat} {v : Value} (hk : k ∉ bx) (hv : A.cell? ⟨k, o, none⟩ = some v) : B.cell? ⟨k, o, none⟩ = some v := by
  simp only [World.cell?] at hv ⊢
  cases ho : A.heap[k]? with
  | none => simp [ho] at hv
  | some u =>
    have hc : u.isCells = true := by
      rw [ho] at hv
      cases u <;> simp_all [Obj.isCells]
    rw [h.2 k u hk ho hc, ← ho]
    exact hv
theorem KeepC.setCell {bx : List Nat} {A : World} {k : Nat} (hk : k ∈ bx) (v : Value) : KeepC bx A (A.setCell ⟨k, 0, none⟩ v) :=
  ⟨(grownBy_setCell' A k v).size, fun i o hi ho _ => ((grownBy_setCell' A k v).block i (Array.getElem?_eq_some_iff.1 ho).1 (fun e => hi (by rw [Option.some.inj e]; exact hk))).trans ho⟩
theorem equal_nil {t : TypeId} {ps rs : Array TypeId} {v : Bool} (hu : Tryd.prog.underlying t = some (.func ps rs v)) (f : Fn) (bs : Array Value) (w : World) : (Op.equal t (.func f #[] bs) .nilFunc).run Tryd.prog w = .ok false w := by
  unfold Op.equal
  obtain ⟨d, hd⟩ : ∃ d, Op.maxDepth = d + 1 := ⟨_, rfl⟩
  rw [hd]
  unfold Op.equalIn
  simp only [Sem.run_bind, run_underlying hu, Result.andThen_ok, Sem.run_pure]
end Go.Proofs.YtaakaajcpjiccaaDoor
