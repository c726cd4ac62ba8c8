/-
  A region that draws its order, within a round of a range over a function: what holds of it outside a round holds of it there, if it defers nothing.
-/
import Derived.Sort.QuietIn
import Derived.Test.YtaakaajcpjiccaaDoorProg
set_option linter.unusedVariables false
set_option linter.unusedSimpArgs false
namespace Go.Proofs.YtaakaajcpjiccaaDoor
open Go.RowKit
open Go.Proofs

section
variable {F : Fence} {n : Nat} {P : Program} {ops : Array Oper} {Q : Exit → Act → World → Prop} {md : Region.Mode}
def noDefer (ops : List Oper) : Bool := ops.all fun o => match o.op with | .defer _ => false | _ => true
theorem noDefer_spec {l : List Oper} (h : noDefer l = true) {i : Nat} {o : Oper} (ho : l[i]? = some o) : ∀ c, o.op ≠ .defer c := fun c e => by
  have := List.all_eq_true.1 h o (List.mem_of_getElem? ho)
  rw [e] at this
  cases this
theorem oper_round {o : Oper} {a : Act} {w : World} {K K' : Act → World → Prop} (l : Nat) (hro : F.round = none) (hd : ∀ c, o.op ≠ .defer c) (hK : ∀ a w, K a w → K' a w) (h : o.wpIn F n P a w K Q) : o.wpIn (F.inRound l) n P a w K' Q := by
  have h := Oper.wpIn_mono hK h
  unfold Oper.wpIn at h ⊢
  rw [hro, Oper.semAt_none] at h
  refine ⟨h.1, ?_⟩
  rw [Fence.inRound_round, Oper.semAt_some l _ _ hd]
  exact h.2
theorem opIn_round {l : List Oper} {i : Nat} {a : Act} {w : World} {K K' : Act → World → Prop} (r : Nat) (hro : F.round = none) (hd : noDefer l = true) (hK : ∀ a w, K a w → K' a w) (h : wpOpIn F n P l.toArray Q i K a w) : wpOpIn (F.inRound r) n P l.toArray Q i K' a w := by
  unfold wpOpIn at h ⊢
  cases ho : l.toArray[i]? with
  | none => simp only [ho] at h ⊢; exact hK _ _ h
  | some o =>
    simp only [ho] at h ⊢
    have hdo := noDefer_spec hd (i := i) (by simpa using ho)
    split
    · rename_i hw; simp only [hw, if_true] at h; exact oper_round r hro hdo hK h
    · rename_i hw; simp only [hw] at h; exact ⟨h.1, hK _ _ h.2⟩
theorem any_round {l : List Oper} (r : Nat) (hro : F.round = none) (hd : noDefer l = true) : ∀ (fuel : Nat) (listed : Array Bool) (a : Act) (w : World), wpAnyIn F n P md l.toArray Q fuel listed a w → wpAnyIn (F.inRound r) n P md l.toArray Q fuel listed a w
  | 0, _, _, _, h => h
  | fuel + 1, _, _, _, h => ⟨h.1, fun i hi => opIn_round r hro hd (fun a w k => any_round r hro hd fuel _ a w k) (h.2 i hi)⟩
/-- The quiet theorem within a round. -/
theorem quiet_round {id r : Nat} {a : Act} {w : World} {l : List Oper} (hro : F.round = none) (hm : P.follows .mixedOrders = true) (hB : Region.lexB .any l.toArray = true) (hd : noDefer l = true)
    (h : wpQuietIn F n P l.toArray (fun w' => ∃ n, w' = w.drewN n) (fun a' => ∀ w', (∃ n, w' = w.drewN n) → Q .normal a' w') l a) : (Code.region id l.toArray true).wpIn (F.inRound r) n P Q a w := by
  simp only [Region.lexB, Bool.and_eq_true] at hB
  refine wpIn_region_any hm (any_round r hro hd _ _ _ _ (wpAnyIn_of_quiet (C := fun w' => ∃ n, w' = w.drewN n) (Q := fun a' => ∀ w', (∃ n, w' = w.drewN n) → Q .normal a' w') hro (fun _ w' hw' h => h w' hw') _ _ _ _ ⟨1, rfl⟩ ?_))
  have := wpAnyQIn_lex (F := F) (n := n) (C := fun w' => ∃ n, w' = w.drewN n) (md := .any) hB.1 l 0 (Array.replicate l.toArray.size false) a (by simp) (by simpa using hB.2) h
  simpa using this
end
end Go.Proofs.YtaakaajcpjiccaaDoor
