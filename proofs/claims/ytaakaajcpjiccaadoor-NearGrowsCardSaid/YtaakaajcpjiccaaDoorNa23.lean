/-
  append of one string onto a row of strings of the call's own, at a step of a region that draws.
-/
import Derived.WalkKit
import Derived.Maps.AppendAt
import Derived.Deep.AppendSrc
import Derived.Deep.RegionLaw
import Derived.RangeFuncBox
import Derived.Test.YtaakaajcpjiccaaDoorProg
set_option linter.unusedVariables false
set_option linter.unusedSimpArgs false
namespace Go.Proofs.YtaakaajcpjiccaaDoor
open Go.RowKit
open Go.Proofs

/-- v owns a row of strings from block B on. -/
def OwnS (w : World) (B : Nat) (v : Value) (l : List ByteArray) : Prop := w.ownsRow B 9 1 v l.length (l.map Value.string)
theorem info_str : (Tryd.prog.info? 9).map (fun i => (i.zero, i.size, i.bytes)) = some (some (.string ⟨#[]⟩), 1, 16) := by kernel_rfl
theorem ownS_nil (w : World) (B : Nat) : OwnS w B (.slice none 0 0) [] := World.ownsRow_nil _ _ _ _
theorem OwnS.grown {w w' : World} {B : Nat} {v : Value} {l : List ByteArray} {r : Nat} (h : OwnS w B v l) (hg : w.grownBy w' (some r)) (hr : r < B) : OwnS w' B v l :=
  World.ownsRow.kept h hg (by
    cases e : v.ownBlock with
    | none => exact .inl rfl
    | some k => exact .inr (fun e2 => by have h1 := (World.ownsRow.lt h k e).1; have h2 := Option.some.inj e2; omega))
/-- What it is, as a slice. -/
theorem OwnS.sl {w : World} {B : Nat} {v : Value} {l : List ByteArray} (h : OwnS w B v l) : ∃ a c, v = .slice a l.length c ∧ (l = [] ∨ ∃ g, a = some ⟨g, 0, none⟩ ∧ ∀ j, j < l.length → w.cell? ⟨g, j, none⟩ = some (.string (l[j]?.getD ⟨#[]⟩))) := by
  rcases h.2 with ⟨rfl, h0⟩ | ⟨g, cap, cur, rfl, hb, hg, hn, hcm, hcs, hx⟩
  · rw [h0]; exact ⟨none, 0, rfl, .inl (List.length_eq_zero_iff.1 h0)⟩
  · refine ⟨_, cap, rfl, .inr ⟨g, rfl, fun j hj => ?_⟩⟩
    have h1 := World.ownsRow.cells h rfl j (.string (l[j]?.getD ⟨#[]⟩)) (by rw [List.getElem?_map, List.getElem?_eq_getElem hj]; rfl)
    rcases j with _ | j <;> simpa [Addr.add] using h1
theorem run_appS (w : World) (B : Nat) (ty : TypeId) (v : Value) (l : List ByteArray) (hown : OwnS w B v l) (L : Nat) (y : ByteArray) (hy : w.cell? ⟨L, 0, none⟩ = some (.string y)) (hl : l.length + 1 ≤ 100000) (hB : B ≤ w.heap.size) :
    ∃ v' w', (Builtin.append_ #[29, 29] ty #[v, .slice (some ⟨L, 0, none⟩) 1 1]).run Tryd.prog w = .ok v' w' ∧ OwnS w' B v' (l ++ [y]) ∧ w.grownBy w' v.ownBlock := by
  obtain ⟨i0, hi, hz0, hz1, hz2⟩ := info_parts info_str
  obtain ⟨v', w', h1, h2, h3, h4, h5⟩ := run_append_own_at (P := Tryd.prog) w B 29 ty 9 i0 _ 1 16 Tryd.underlying29 hi hz0 hz1 hz2 rfl (by decide) v l.length (l.map Value.string) hown ⟨L, 0, none⟩ 1 1 [.string y] rfl
    (fun j x hj => by
      rcases j with _ | j
      · cases hj; exact hy
      · simp at hj)
    (fun u hu => by simp only [List.mem_singleton] at hu; subst hu; rfl) (by unfold maxLen; omega) (by omega) hB
  refine ⟨v', w', h1, ?_, h3⟩
  show World.ownsRow _ _ _ _ _ _ _
  rw [List.length_append, List.map_append]
  exact h2
/-- At a step of a region that draws. -/
theorem step_appS {ops : Array Oper} {o : Oper} {a : Act} {w : World} {K : Act → World → Prop} {Q : Exit → Act → World → Prop} {E : Prop} (s x : Operand)
    (ho : o.op = .call { callee := .builtin .append, args := #[s, x], argTypes := #[29, 29] }) (hw : Region.wanted o (yielded ops a.tmps) = true)
    (B : Nat) (v : Value) (l : List ByteArray) (hown : OwnS w B v l) (L : Nat) (y : ByteArray) (hy : w.cell? ⟨L, 0, none⟩ = some (.string y)) (hl : l.length + 1 ≤ 100000) (hB : B ≤ w.heap.size)
    (hs : a.eval s = v) (hx : a.eval x = .slice (some ⟨L, 0, none⟩) 1 1)
    (h : ∀ v' w', OwnS w' B v' (l ++ [y]) → w.grownBy w' v.ownBlock → K (a.put o.dst v') w') :
    if Region.wanted o (yielded ops a.tmps) = true then Oper.wp Tryd.prog o a w K Q else E := by
  rw [if_pos hw]
  obtain ⟨v', w', h1, h2, h3⟩ := run_appS w B o.type v l hown L y hy hl hB
  unfold Oper.wp
  simp [execOp, ho, resolve, invoke, builtin, hs, hx, h1, Result.andThen]
  exact h v' w' h2 h3
end Go.Proofs.YtaakaajcpjiccaaDoor
