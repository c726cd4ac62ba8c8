/-
  A range over an iterator whose rounds know what they are given. Atoms as plain data; the iterator over a table's atoms (atoms.Each): what a round is given.
-/
import Derived.Deep.MidRow
import Derived.Test.YtaakaajcpjiccaaDoorNa13
set_option linter.unusedVariables false
set_option linter.unusedSimpArgs false
namespace Go.Proofs.YtaakaajcpjiccaaDoor
open Go.RowKit
open Go.Proofs

section
variable {F : Fence} {n : Nat} {P : Program}
/-- What an iterator owes: all of S's rounds with the caller's invariant J behind the last, or a part of them with Jx; J and Jx abide what the iterator's own loops do to their records. -/
def SeqO {α : Type} (F : Fence) (n : Nat) (P : Program) (g : Nat) (lb : Array Value) (encs : α → Array Value) (Kp : World → World → Prop) (S Sp : List α → Prop) (Ok : List α → α → Prop) (w : World) : Prop :=
  ∀ (l : Nat) (J Jx : List α → World → Prop) (W : World), Below w.heap.size w W → w.heap.size + 2 ≤ W.heap.size → OwnFrom W.heap.size J → OwnFrom W.heap.size Jx →
    (∀ pre x W1, J pre W1 → Ok pre x → YieldAt F (n - 1) P l (encs x) W1 fun e W' =>
      (e = .returned (.bool true) ∧ J (pre ++ [x]) W' ∧ Kp W1 W') ∨ (e = .returned (.bool false) ∧ Jx (pre ++ [x]) W' ∧ Kp W1 W')) →
    J [] W →
    CallsIn F n P g (#[.func (.yield l) #[] #[]] ++ lb) W fun e W' => (∃ v, e = .returned v) ∧ ((∃ xs, S xs ∧ J xs W') ∨ (∃ pre, Sp pre ∧ Jx pre W'))
theorem SeqO.kp {α : Type} {g : Nat} {lb : Array Value} {encs : α → Array Value} {Kp Kp' : World → World → Prop} {S Sp : List α → Prop} {Ok : List α → α → Prop} {w : World} (h : SeqO F n P g lb encs Kp S Sp Ok w) (hk : ∀ A B, Kp' A B → Kp A B) : SeqO F n P g lb encs Kp' S Sp Ok w :=
  fun l J Jx W hb hz hJ hJx hY h0 => h l J Jx W hb hz hJ hJx (fun pre x W1 hj hl => (hY pre x W1 hj hl).mono fun e W' he => he.imp (fun ⟨a, b, c⟩ => ⟨a, b, hk _ _ c⟩) (fun ⟨a, b, c⟩ => ⟨a, b, hk _ _ c⟩)) h0
/-- **THE CALLER's LAW.** The book-keeping of the loop (its record, the block for the rounds' deferred calls) lies in two blocks of its own; what the iterator turns lies beyond both. -/
theorem range_ok {α : Type} {g : Operand} {ps : Array Tmp} {assign body : Code} {Q : Exit → Act → World → Prop} {a : Act} {w : World}
    (hro : F.round = none) (h1 : 1 ≤ n) {gf : Nat} {lb : Array Value} (hg : a.eval g = .func (.func gf) #[] lb) (hF : F.fn gf) (eg : ∀ args w, (callFunc gf args).run P w = .ok (.enter gf args) w)
    {encs : α → Array Value} {Kp : World → World → Prop} {S Sp : List α → Prop} {Ok : List α → α → Prop} {w0 : World} (hseq : SeqO F (n - 1) P gf lb encs Kp S Sp Ok w0)
    (hKt : ∀ {A B C : World}, Kp A B → Kp B C → Kp A C) (hKb : ∀ (W : World) (o o' : Obj), W.heap[w.heap.size + 1]? = some o → o.isCells = false → Kp W (W.putObj (w.heap.size + 1) o')) (hb0 : Below w0.heap.size w0 w) (hps : ∀ x, (encs x).size = ps.size)
    (I : List α → World → Prop) (Ix : Code → List α → World → Prop) (hI : OwnFrom w.heap.size I) (hIx : ∀ c, OwnFrom w.heap.size (Ix c)) (h0 : I [] w) (Ax : α → Act → World → Prop) (hAx : ∀ x a', OwnFrom w.heap.size (fun (_ : Unit) W => Ax x a' W))
    (hassign : ∀ (l : Nat) (pre : List α) (x : α) (W : World) (K : Act → World → Prop), I pre W → (∀ a' W', KeepsFrom w.heap.size W W' → Kp W W' → I pre W' → Ax x a' W' → K a' W') →
      assign.wpIn (F.inRound l) (n - 1 - 1) P (Exit.then K (fun _ _ _ => False)) { tmps := (ps.zip (encs x)).foldl (fun t (p, v) => t.setIfInBounds p v) a.tmps, defers := [] } W)
    (hbody : ∀ (l : Nat) (pre : List α) (x : α) (a' : Act) (W : World), I pre W → Ax x a' W → Ok pre x → body.wpIn (F.inRound l) (n - 1 - 1) P (postW w.heap.size Kp I Ix (pre ++ [x]) W) a' W)
    (hdone : ∀ (D : Nat) (xs : List α) (W : World), w.heap.size ≤ D → S xs → I xs W → W.heap[D]? = some (.deferred (some [])) → Q .normal { a with defers := { target := .collected D, args := #[] } :: a.defers } W)
    (hstop : ∀ (D : Nat) (c : Code) (pre : List α) (W : World), w.heap.size ≤ D → Sp pre → Ix c pre W → W.heap[D]? = some (.deferred (some [])) → c.wpIn F n P Q { a with defers := { target := .collected D, args := #[] } :: a.defers } W) :
    (Code.rangeFunc g ps assign body).wpIn F n P Q a w := by
  refine wpIn_rangeFunc ?_
  intro fn hfn
  rw [hro]
  -- the record in its states
  obtain ⟨rec, hrec⟩ : ∃ rec : LoopState → Option Code → Loop, rec = fun st pe => { state := st, pending := pe, fn, tmps := a.tmps, params := ps, assign, body, defers := w.heap.size } := ⟨_, rfl⟩
  have hpar : ∀ st pe, (rec st pe).params = ps := fun st pe => by rw [hrec]
  obtain ⟨V, hV⟩ : ∃ V, (w.alloc (.deferred (some []))).alloc (.loop (rec .ready none)) = V := ⟨_, rfl⟩
  have hVs : V.heap.size = w.heap.size + 1 + 1 := by rw [← hV]; simp
  have hrecV : V.heap[w.heap.size + 1]? = some (.loop (rec .ready none)) := by
    rw [← hV]
    have := World.alloc_heap_new (w.alloc (.deferred (some []))) (.loop (rec .ready none))
    rwa [World.size_alloc] at this
  have hdefV : V.heap[w.heap.size]? = some (.deferred (some [])) := by
    rw [← hV]
    exact (Below.heap_alloc _ _ _ (by simp)).trans (World.alloc_heap_new w _)
  have hIV : I [] V := by rw [← hV]; exact hI.alloc _ (hI.alloc _ h0)
  have hbV : Below w0.heap.size w0 V := by
    rw [← hV]
    exact hb0.trans ((((Below.refl _ w).alloc (Nat.le_refl _) _).alloc (by simp) _).mono hb0.size)
  refine ⟨w.heap.size + 1, [{ target := .collected w.heap.size, args := #[] }], V, { target := .fn (.func gf) lb, args := #[.func (.yield (w.heap.size + 1)) #[] #[]] }, V, gf,
    #[.func (.yield (w.heap.size + 1)) #[] #[]] ++ lb, V, ?enter, ?what, ?lead, ?call, fun _ => h1, ?run⟩
  case enter => rw [← hV, hrec]; exact run_enterLoop_outer _ _ _ _ _
  case what =>
    simp only [resolve, hg]
    simp [go_sem]
  case lead =>
    intro f' hf'
    simp [Target.leads] at hf'
    subst hf'
    exact hF
  case call => simp [invoke, go_sem, eg]
  case run =>
    have wide : ∀ {A : World} {row : Option Nat}, (∀ r, row = some r → V.heap.size ≤ r ∧ ∃ o : Obj, A.heap[r]? = some o ∧ o.isCells = false) → ∀ r, row = some r → w.heap.size ≤ r ∧ ∃ o : Obj, A.heap[r]? = some o ∧ o.isCells = false :=
      fun h r e => by obtain ⟨hB, o⟩ := h r e; exact ⟨by omega, o⟩
    refine (hseq (w.heap.size + 1)
      (fun pre W => I pre W ∧ W.heap[w.heap.size + 1]? = some (.loop (rec .ready none)) ∧ W.heap[w.heap.size]? = some (.deferred (some [])))
      (fun pre W => ∃ c, Ix c pre W ∧ W.heap[w.heap.size + 1]? = some (.loop (rec .done (some c))) ∧ W.heap[w.heap.size]? = some (.deferred (some [])))
      V hbV (by have := hb0.size; omega)
      (fun s A B row hs hg' hr => ⟨hI s A B row hs.1 hg' (wide hr), far_same hg' (fun r e => (hr r e).1) (by omega) hs.2.1, far_same hg' (fun r e => (hr r e).1) (by omega) hs.2.2⟩)
      (fun s A B row hs hg' hr => by
        obtain ⟨c, hc, hl, hk⟩ := hs
        exact ⟨c, hIx c s A B row hc hg' (wide hr), far_same hg' (fun r e => (hr r e).1) (by omega) hl, far_same hg' (fun r e => (hr r e).1) (by omega) hk⟩)
      ?round ⟨hIV, hrecV, hdefV⟩).mono ?behind
    case round =>
      rintro pre x W ⟨hi, hl, hk⟩ hlen
      have hy := run_yield (P := P) (args := encs x) hl (by rw [hpar]; exact hps x)
      rw [hrec] at hy
      refine ⟨fn, _, assign, body, hy, roundIn_of_wpIn hfn (hassign _ pre x W _ hi ?_)⟩
      clear hy
      intro a' W2 hkf hkp hi2 hax
      have hl2 := hkf.same _ _ (by omega) hl rfl
      have hk2 := hkf.same _ _ (Nat.le_refl _) hk rfl
      have hlt : w.heap.size + 1 < W2.heap.size := (Array.getElem?_eq_some_iff.1 hl2).1
      refine ⟨_, run_beginRound hl2 (by rw [hrec]), ?_⟩
      obtain ⟨busy, hbusy⟩ : ∃ b : Loop, { rec .ready none with state := .busy } = b := ⟨_, rfl⟩
      rw [hbusy]
      have hl3 : (W2.putObj (w.heap.size + 1) (.loop busy)).heap[w.heap.size + 1]? = some (.loop busy) := World.putObj_heap_same hlt
      have hk3 : (W2.putObj (w.heap.size + 1) (.loop busy)).heap[w.heap.size]? = some (.deferred (some [])) := (World.putObj_heap_other (by omega)).trans hk2
      have hp3 : Kp W2 (W2.putObj (w.heap.size + 1) (.loop busy)) := hKb _ _ _ hl2 rfl
      refine wpIn_mono (hbody _ pre x a' _ (hI.putObj _ hi2 (by omega) hl2 rfl) ((hAx x a').putObj (s := ()) _ hax (by omega) hl2 rfl) hlen) ?_
      have fin : ∀ (jump : Option Code) (W3 : World), KeepsFrom w.heap.size (W2.putObj (w.heap.size + 1) (.loop busy)) W3 →
          (Instr.endRound (w.heap.size + 1) jump).run P W3 = .ok (.bool jump.isNone) (W3.putObj (w.heap.size + 1) (.loop (rec (if jump.isNone then .ready else .done) jump))) ∧
          W3.heap[w.heap.size + 1]? = some (.loop busy) ∧
          (W3.putObj (w.heap.size + 1) (.loop (rec (if jump.isNone then .ready else .done) jump))).heap[w.heap.size + 1]? = some (.loop (rec (if jump.isNone then .ready else .done) jump)) ∧
          (W3.putObj (w.heap.size + 1) (.loop (rec (if jump.isNone then .ready else .done) jump))).heap[w.heap.size]? = some (.deferred (some [])) := fun jump W3 hkW => by
        have hl4 := hkW.same _ _ (by omega) hl3 rfl
        have hrun := run_endRound (P := P) jump hl4
        rw [← hbusy, hrec] at hrun
        rw [hrec]
        exact ⟨hrun, hl4, World.putObj_heap_same (Array.getElem?_eq_some_iff.1 hl4).1, (World.putObj_heap_other (by omega)).trans (hkW.same _ _ (Nat.le_refl _) hk3 rfl)⟩
      rintro e a3 W3 hp
      cases e with
      | normal =>
        obtain ⟨hkW, hkp3, hi3⟩ := hp
        obtain ⟨hr, hl4, hl5, hk5⟩ := fin none W3 hkW
        exact ⟨_, _, hr, .inl ⟨rfl, ⟨hI.putObj _ hi3 (by omega) hl4 rfl, hl5, hk5⟩, hKt hkp (hKt (hKt hp3 hkp3) (hKb _ _ _ hl4 rfl))⟩⟩
      | ret =>
        obtain ⟨hkW, hkp3, hi3⟩ := hp
        obtain ⟨hr, hl4, hl5, hk5⟩ := fin (some .ret) W3 hkW
        exact ⟨_, _, hr, .inr ⟨rfl, ⟨.ret, (hIx _).putObj _ hi3 (by omega) hl4 rfl, hl5, hk5⟩, hKt hkp (hKt (hKt hp3 hkp3) (hKb _ _ _ hl4 rfl))⟩⟩
      | exit id =>
        obtain ⟨hkW, hkp3, hi3⟩ := hp
        obtain ⟨hr, hl4, hl5, hk5⟩ := fin (some (.exit id)) W3 hkW
        exact ⟨_, _, hr, .inr ⟨rfl, ⟨.exit id, (hIx _).putObj _ hi3 (by omega) hl4 rfl, hl5, hk5⟩, hKt hkp (hKt (hKt hp3 hkp3) (hKb _ _ _ hl4 rfl))⟩⟩
      | goto t =>
        obtain ⟨hkW, hkp3, hi3⟩ := hp
        obtain ⟨hr, hl4, hl5, hk5⟩ := fin (some (.goto t)) W3 hkW
        exact ⟨_, _, hr, .inr ⟨rfl, ⟨.goto t, (hIx _).putObj _ hi3 (by omega) hl4 rfl, hl5, hk5⟩, hKt hkp (hKt (hKt hp3 hkp3) (hKb _ _ _ hl4 rfl))⟩⟩
      | panic ch => exact hp.elim
      | outgrown => exact hp.elim
    case behind =>
      rintro e W2 ⟨⟨v, rfl⟩, hend⟩
      rcases hend with ⟨xs, hS, hi, hl, hk⟩ | ⟨pre, hSp, c, hi, hl, hk⟩
      · have hrun := run_endLoop (P := P) hl (by rw [hrec]; simp)
        rw [hrec] at hrun
        exact ⟨none, _, hrun, hdone _ xs _ (Nat.le_refl _) hS (hI.putObj _ hi (by omega) hl rfl) ((World.putObj_heap_other (by omega)).trans hk)⟩
      · have hrun := run_endLoop (P := P) hl (by rw [hrec]; simp)
        rw [hrec] at hrun
        exact ⟨some c, _, hrun, hstop _ c pre _ (Nat.le_refl _) hSp ((hIx c).putObj _ hi (by omega) hl rfl) ((World.putObj_heap_other (by omega)).trans hk)⟩
/-- A range whose loop has no variable to assign. -/
theorem range_okskip {α : Type} {g : Operand} {ps : Array Tmp} {body : Code} {Q : Exit → Act → World → Prop} {a : Act} {w : World}
    (hro : F.round = none) (h1 : 1 ≤ n) {gf : Nat} {lb : Array Value} (hg : a.eval g = .func (.func gf) #[] lb) (hF : F.fn gf) (eg : ∀ args w, (callFunc gf args).run P w = .ok (.enter gf args) w)
    {encs : α → Array Value} {Kp : World → World → Prop} {S Sp : List α → Prop} {Ok : List α → α → Prop} {w0 : World} (hseq : SeqO F (n - 1) P gf lb encs Kp S Sp Ok w0)
    (hKr : ∀ A : World, Kp A A) (hKt : ∀ {A B C : World}, Kp A B → Kp B C → Kp A C) (hKb : ∀ (W : World) (o o' : Obj), W.heap[w.heap.size + 1]? = some o → o.isCells = false → Kp W (W.putObj (w.heap.size + 1) o')) (hb0 : Below w0.heap.size w0 w) (hps : ∀ x, (encs x).size = ps.size)
    (I : List α → World → Prop) (Ix : Code → List α → World → Prop) (hI : OwnFrom w.heap.size I) (hIx : ∀ c, OwnFrom w.heap.size (Ix c)) (h0 : I [] w)
    (hbody : ∀ (l : Nat) (pre : List α) (x : α) (W : World), I pre W → Ok pre x → body.wpIn (F.inRound l) (n - 1 - 1) P (postW w.heap.size Kp I Ix (pre ++ [x]) W) { tmps := (ps.zip (encs x)).foldl (fun t (p, v) => t.setIfInBounds p v) a.tmps, defers := [] } W)
    (hdone : ∀ (D : Nat) (xs : List α) (W : World), w.heap.size ≤ D → S xs → I xs W → W.heap[D]? = some (.deferred (some [])) → Q .normal { a with defers := { target := .collected D, args := #[] } :: a.defers } W)
    (hstop : ∀ (D : Nat) (c : Code) (pre : List α) (W : World), w.heap.size ≤ D → Sp pre → Ix c pre W → W.heap[D]? = some (.deferred (some [])) → c.wpIn F n P Q { a with defers := { target := .collected D, args := #[] } :: a.defers } W) :
    (Code.rangeFunc g ps Code.skip body).wpIn F n P Q a w :=
  range_ok hro h1 hg hF eg hseq hKt hKb hb0 hps I Ix hI hIx h0 (fun x a' _ => a' = { tmps := (ps.zip (encs x)).foldl (fun t (p, v) => t.setIfInBounds p v) a.tmps, defers := [] }) (fun _ _ _ _ _ _ h _ _ => h)
    (fun l pre x W K hi hK => by
      exact wpIn_skip (hK _ W (KeepsFrom.refl _ _) (hKr W) hi rfl))
    (fun l pre x a' W hi ha hl => by subst ha; exact hbody l pre x W hi hl) hdone hstop
end
end Go.Proofs.YtaakaajcpjiccaaDoor
namespace Go.Proofs.YtaakaajcpjiccaaDoor
open Go.RowKit
open Go.Proofs
open Go.Shelf
attribute [local go_sem] Oper.semAt_some

/-- An atom, its terms as a slice. -/
structure AtomD where
  c0 : ByteArray
  c1 : ByteArray
  c2 : ByteArray
  c3 : ByteArray
  c4 : ByteArray
  metric : Bool
  tag : Int
  base : Int
  num : Int
  den : Int
  ten : Int
  ta : Option Addr
  tn : Nat
  tc : Nat
  deriving Inhabited
def atomL (x : AtomD) : List Value := [.string x.c0, .string x.c1, .string x.c2, .string x.c3, .string x.c4, .bool x.metric, .int .i64 x.tag, .int .i64 x.base, .int .i64 x.num, .int .i64 x.den, .int .i64 x.ten, .slice x.ta x.tn x.tc]
def atomsL (t : List AtomD) : List Value := t.flatMap atomL
theorem atomsL_length (t : List AtomD) : (atomsL t).length = t.length * 12 := by
  induction t with
  | nil => rfl
  | cons x r ih => simp [atomsL, atomL] at ih ⊢; omega
theorem flat_take {α : Type} (f : α → List Value) (k : Nat) : ∀ (l : List α), (∀ a ∈ l, (f a).length = k) → ∀ i (h : i < l.length), ((l.flatMap f).drop (i * k)).take k = f l[i]
  | [], _, i, h => by simp at h
  | a :: l, hf, 0, _ => by
    have := hf a (by simp)
    simp [← this]
  | a :: l, hf, i + 1, h => by
    have h1 := hf a (by simp)
    have h2 := flat_take f k l (fun b hb => hf b (by simp [hb])) i (by simpa using h)
    rw [List.flatMap_cons, Nat.add_mul, Nat.one_mul, Nat.add_comm, List.drop_append, ← h1]
    simp only [List.drop_eq_nil_of_le (Nat.le_add_right (f a).length (i * (f a).length)), List.nil_append, Nat.add_sub_cancel_left]
    rw [← h1] at h2
    exact h2
theorem atomD_range {w : World} {g o : Nat} {t : List AtomD} (h : w.rangeAt g o (atomsL t)) (k : Nat) (hk : k < t.length) : w.rangeAt g (o + k * 12) (atomL t[k]) := by
  intro j v hj
  have h2 := h (k * 12 + j) v
  rw [← Nat.add_assoc] at h2
  apply h2
  have hd := flat_take atomL 12 t (fun x _ => rfl) k hk
  rw [← hd, List.getElem?_take] at hj
  split at hj
  · rwa [List.getElem?_drop] at hj
  · cases hj
theorem range_below {w w' : World} {g o B : Nat} {cs : List Value} (h : w.rangeAt g o cs) (hb : Below B w w') (hg : g < B) : w'.rangeAt g o cs := fun j v hj => (hb.cell (p := ⟨g, o + j, none⟩) hg).trans (h j v hj)
theorem range_lt {w : World} {g o : Nat} {cs : List Value} (h : w.rangeAt g o cs) (hn : cs ≠ []) : g < w.heap.size := by
  cases cs with
  | nil => exact (hn rfl).elim
  | cons v r => exact World.block_lt_of_cell? w ⟨g, o + 0, none⟩ (h 0 v rfl)
theorem wpListIn_load_mid {F : Fence} {n : Nat} {P : Program} {ops : Array Oper} {rest : List Oper} {op : Oper} {a : Act} {w : World} {Q : Exit → Act → World → Prop} (hgd : op.guard = none) (ty : TypeId) (x : Operand) (ho : op.op = .load ty x)
    (b o : Nat) (hx : a.eval x = .pointer (some ⟨b, o, none⟩)) (cs : List Value) (d : TypeDesc) (hc : w.rangeAt b o cs)
    (hu : P.underlying ty = some d) (hd : d.isRow = true) (hi : (P.info? ty).map (·.size) = some cs.length)
    (h : wpListIn F n P ops Q rest (a.put op.dst (.agg cs.toArray)) w) : wpListIn F n P ops Q (op :: rest) a w := by
  refine wpListIn_plain hgd fun K hK => ?_
  unfold Oper.wpIn
  refine ⟨by simp [Oper.about, ho], ?_⟩
  rw [Oper.semAt_plain F _ _ (by rw [ho]; intro c hc'; cases hc')]
  unfold execOp
  simp only [ho, hx, Instr.loadAt, Instr.sureAddr, Sem.run_bind, Sem.run_pure, Result.andThen_ok, run_loadVar_mid w b o ty cs d hc hu hd hi]
  exact hK _ _ h
theorem size_Atom : (Tryd.prog.info? 124).map (·.size) = some 12 := by kernel_rfl

/-- The first k atoms, each with its place. -/
def firstA (t : List AtomD) (k : Nat) : List (Nat × AtomD) := (List.range k).map fun j => (j, t[j]?.getD default)
theorem firstA_succ (t : List AtomD) (k : Nat) : firstA t (k + 1) = firstA t k ++ [(k, t[k]?.getD default)] := by
  unfold firstA
  rw [List.range_succ, List.map_append]
  rfl
def encE (x : Nat × AtomD) : Array Value := #[.int .i64 (x.1 : Int), .agg (atomL x.2).toArray]
def okE (t : List AtomD) (pre : List (Nat × AtomD)) (x : Nat × AtomD) : Prop := ∃ k, k < t.length ∧ pre = firstA t k ∧ x = (k, t[k]?.getD default)
def atomArrD (x : AtomD) : Array Value := #[.string x.c0, .string x.c1, .string x.c2, .string x.c3, .string x.c4, .bool x.metric, .int .i64 x.tag, .int .i64 x.base, .int .i64 x.num, .int .i64 x.den, .int .i64 x.ten, .slice x.ta x.tn x.tc]
set_option maxRecDepth 100000 in
set_option maxHeartbeats 4000000 in
theorem each1_in (F : Fence) (n : Nat) (hf : F.fn 67) (hro : F.round = none) (hn : 1 ≤ n) (l Tb b off cap : Nat) (bx : List Nat) (t : List AtomD) (hlen : t.length ≤ 10000) (hb : b ∉ bx)
    (J Jx : List (Nat × AtomD) → World → Prop) (B : Nat) (hJ : OwnFrom B J)
    (hY : ∀ pre x W, J pre W → okE t pre x → YieldAt F (n - 1) Tryd.prog l (encE x) W fun e W' =>
      (e = .returned (.bool true) ∧ J (pre ++ [x]) W' ∧ KeepC bx W W') ∨ (e = .returned (.bool false) ∧ Jx (pre ++ [x]) W' ∧ KeepC bx W W'))
    (W : World) (hTb : W.cell? ⟨Tb, 0, none⟩ = some (.slice (some ⟨b, off, none⟩) t.length cap))
    (hr : W.rangeAt b off (atomsL t)) (h0 : J [] W) :
    CallsIn F n Tryd.prog 67 #[.func (.yield l) #[] #[], .pointer (some ⟨Tb, 0, none⟩)] W fun e W' => (∃ v, e = .returned v) ∧
      ((∃ ys, ys = firstA t t.length ∧ J ys W') ∨ (∃ pre, (∃ k, k ≤ t.length ∧ pre = firstA t k) ∧ Jx pre W')) := by
  have HR := Lib.hid hr
  have HJ := Lib.hid hJ
  have HY := Lib.hid hY
  clear hr hJ hY
  refine callsIn_of_wp Tryd.func67 rfl hf ?_ hro
  simp only [Tryd.ntmps67, List.size_toArray, List.length_cons, List.length_nil, Nat.reduceAdd, Nat.reduceSub, Array.replicate_succ, Array.replicate_zero, List.push_toArray, List.append_toArray, List.nil_append, List.cons_append]
  gi_wp2
  gi_loopw [8] (fun i wr => ∃ k : Nat, k ≤ t.length ∧ i = .int .i64 k ∧ J (firstA t k) wr ∧ KeepC bx W wr)
    (fun i _ => t.length - (intOf i).toNat)
  case atStart => exact ⟨0, Nat.zero_le _, rfl, h0, KeepC.refl _ _⟩
  case round =>
    obtain ⟨k, hk, rfl, hJs, hnx⟩ := hrel
    by_cases hlt : k < t.length
    · obtain ⟨x, hx⟩ : ∃ x, t[k]?.getD default = x := ⟨_, rfl⟩
      have hxk : t[k] = x := by rw [← hx, List.getElem?_eq_getElem hlt]; rfl
      have hst := atomD_range HR.out k hlt
      rw [hxk] at hst
      have HXE := Lib.hid hx
      clear hx hxk
      obtain ⟨x0, x1, x2, x3, x4, xm, xt, xb, xn, xd, xe, xa, xl, xc⟩ := x
      have HST : Hid (wr.rangeAt b (off + k * 12) [.string x0, .string x1, .string x2, .string x3, .string x4, .bool xm, .int .i64 xt, .int .i64 xb, .int .i64 xn, .int .i64 xd, .int .i64 xe, .slice xa xl xc]) := fun j v hj => hnx.cell hb (hst j v hj)
      clear hst
      have HJA : Hid (J (firstA t k) (wr.alloc (.cells #[.string x0, .string x1, .string x2, .string x3, .string x4, .bool xm, .int .i64 xt, .int .i64 xb, .int .i64 xn, .int .i64 xd, .int .i64 xe, .slice xa xl xc] 124))) := HJ.out.alloc _ hJs
      have HBA : Hid (KeepC bx W (wr.alloc (.cells #[.string x0, .string x1, .string x2, .string x3, .string x4, .bool xm, .int .i64 xt, .int .i64 xb, .int .i64 xn, .int .i64 xd, .int .i64 xe, .slice xa xl xc] 124))) := hnx.alloc _
      have hsel := Lib.hid (firstA_succ t k)
      obtain ⟨fn, tmps, assign, body, hy, hR⟩ := HY.out (firstA t k) (k, ⟨x0, x1, x2, x3, x4, xm, xt, xb, xn, xd, xe, xa, xl, xc⟩) _ HJA.out ⟨k, hlt, rfl, by rw [HXE.out]⟩
      simp only [encE, atomL] at hy
      clear hJs hnx
      gi_wp2_with (refine wpListIn_load_mid rfl 124 _ rfl b _ rfl _ _ HST.out Tryd.underlying124 rfl size_Atom ?_)
      refine hR.mono ?_
      rintro e W3 (⟨rfl, hJ3, hk3⟩ | ⟨rfl, hJx3, _⟩)
      · gi_wp2
        go_roundw
        case rel => exact ⟨k + 1, by omega, by simp, by rw [hsel.out, HXE.out]; exact hJ3, HBA.out.trans hk3⟩
        case measure => simp [intOf]; omega
      · gi_wp2
        refine bodyPost_ret (results_none rfl _ _ _) rfl ?_
        exact ⟨⟨_, rfl⟩, .inr ⟨_, ⟨k + 1, by omega, by rw [hsel.out, HXE.out]⟩, hJx3⟩⟩
    · obtain rfl : k = t.length := by omega
      gi_wp2
      go_end0
      exact ⟨⟨_, rfl⟩, .inl ⟨_, rfl, hJs⟩⟩
end Go.Proofs.YtaakaajcpjiccaaDoor
