/-
  A run of operations that only reckon and make new memory, reckoned by the kernel at an open world: general lemmas, no program in sight.
-/
import Derived.Calls
import Derived.Tactics
import Derived.Below
import Derived.Laws.Rows
import Derived.Laws.Tables
import Derived.KernelRfl
set_option linter.unusedVariables false
set_option linter.unusedSimpArgs false
namespace Go.Proofs.YtaakaajcpjiccaaDoor
open Go.RowKit

/-- The world with new blocks behind the old ones. -/
def news (w : World) (n : List Obj) : World := { w with heap := w.heap ++ n.toArray }

def semNew {α : Type} (P : Program) (B : Nat) : Sem α → List Obj → Option (α × List Obj)
  | .pure a, n => some (a, n)
  | .program k, n => semNew P B (k P) n
  | .new o k, n => semNew P B (k (B + n.length)) (n ++ [o])
  | _, _ => none

theorem semNew_run {α : Type} {P : Program} {w : World} {s : Sem α} : ∀ {n n' : List Obj} {a : α}, semNew P w.heap.size s n = some (a, n') → s.run P (news w n) = .ok a (news w n') := by
  induction s with
  | pure a => intro n n' b h; simp [semNew] at h; obtain ⟨rfl, rfl⟩ := h; rfl
  | program k ih => intro n n' b h; exact ih P h
  | new o k ih =>
    intro n n' b h
    have := ih (w.heap.size + n.length) h
    simp only [Sem.run]
    have e1 : (news w n).heap.size = w.heap.size + n.length := by simp [news]
    have e2 : ({ news w n with heap := (news w n).heap.push o } : World) = news w (n ++ [o]) := by
      simp [news]
    rw [e1, e2]; exact this
  | load | store | shape | freeze | frozen | getObj | setObj | choose | sys | mark | halt => intro n n' b h; simp [semNew] at h

/-- What an operand is, by what has been put down so far (newest first), else by the frame. -/
def look (env : List (Nat × Value)) (a : Act) : Operand → Value
  | .tmp t => (env.lookup t).getD (a.tmps.getD t undef)
  | x => a.eval x

def opsNew (P : Program) (B : Nat) (a : Act) : List Oper → List (Nat × Value) → List Obj → Option (List (Nat × Value) × List Obj)
  | [], env, n => some (env, n)
  | o :: r, env, n =>
    match o.guard, o.dst with
    | none, some d =>
      match semNew P B (execOp (look env a) o) n with
      | some (.value v, n') => if d < a.tmps.size then opsNew P B a r ((d, v) :: env) n' else none
      | _ => none
    | _, _ => none

structure Same (env : List (Nat × Value)) (a a' : Act) : Prop where
  eval : ∀ x, a'.eval x = look env a x
  defers : a'.defers = a.defers
  size : a'.tmps.size = a.tmps.size

theorem Same.put {env : List (Nat × Value)} {a a' : Act} (h : Same env a a') (d : Nat) (v : Value) (hd : d < a.tmps.size) : Same ((d, v) :: env) a (a'.put (some d) v) := by
  refine ⟨fun x => ?_, h.defers, by simp [Act.put, h.size]⟩
  cases x with
  | tmp t =>
    simp only [Act.eval, Act.put, look, List.lookup]
    by_cases e : t = d
    · subst e
      simp [h.size, hd]
    · have := h.eval (.tmp t)
      simp only [Act.eval, look] at this
      have e' : (t == d) = false := by simpa using e
      rw [e']
      simp only [Array.getD_eq_getD_getElem?] at this ⊢
      rw [Array.getElem?_setIfInBounds_ne (fun h => e h.symm)]
      exact this
  | const c => exact h.eval (.const c)
  | global g => exact h.eval (.global g)
  | func f => exact h.eval (.func f)

theorem Same.fun_eq {env : List (Nat × Value)} {a a' : Act} (h : Same env a a') : a'.eval = look env a := funext h.eval

theorem wpList_opsNew {P : Program} {ops : Array Oper} {Q : Exit → Act → World → Prop} {rest : List Oper} {w : World} {a : Act} {N : List Obj} :
    ∀ {l : List Oper} {env env' : List (Nat × Value)} {n : List Obj} {a' : Act}, opsNew P w.heap.size a l env n = some (env', N) → Same env a a' →
      (∀ a'', Same env' a a'' → wpList P ops Q rest a'' (news w N)) → wpList P ops Q (l ++ rest) a' (news w n) := by
  intro l
  induction l with
  | nil => intro env env' n a' h hs k; simp [opsNew] at h; obtain ⟨rfl, rfl⟩ := h; exact k _ hs
  | cons o r ih =>
    intro env env' n a' h hs k
    unfold opsNew at h
    split at h
    · rename_i d hg hd
      split at h
      · rename_i v n' he
        split at h
        · rename_i hlt
          have hrun := semNew_run he
          refine wpList_plain hg fun K hK => ?_
          unfold Oper.wp
          rw [hs.fun_eq, hrun, Oper.upon_value]
          refine hK _ _ ?_
          rw [hd]
          exact ih h (hs.put d v hlt) k
        · simp at h
      · simp at h
    · simp at h

theorem news_nil (w : World) : news w [] = w := by simp [news]

theorem news_size (w : World) (n : List Obj) : (news w n).heap.size = w.heap.size + n.length := by simp [news]

theorem news_new (w : World) (n : List Obj) (i : Nat) (o : Obj) (h : n[i]? = some o) : (news w n).heap[w.heap.size + i]? = some o := by
  simp only [news]
  rw [Array.getElem?_append_right (by omega)]
  simpa using h

theorem news_old (w : World) (n : List Obj) (i : Nat) (h : i < w.heap.size) : (news w n).heap[i]? = w.heap[i]? := by
  simp only [news]
  rw [Array.getElem?_append_left h]

theorem news_below (w : World) (n : List Obj) : Below w.heap.size w (news w n) :=
  ⟨rfl, rfl, rfl, by simp [news], fun k hk => news_old w n k hk⟩
end Go.Proofs.YtaakaajcpjiccaaDoor
