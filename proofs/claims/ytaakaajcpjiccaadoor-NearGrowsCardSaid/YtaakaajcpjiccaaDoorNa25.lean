/-
  A trie's children at a world: a map of bytes to nodes.
-/
import Derived.Maps.Own
import Derived.Maps.OwnOps
import Derived.Maps.OwnSet
import Derived.Maps.OwnRows
import Derived.Maps.OwnIn
import Derived.Test.YtaakaajcpjiccaaDoorNa16
set_option linter.unusedVariables false
set_option linter.unusedSimpArgs false
namespace Go.Proofs.YtaakaajcpjiccaaDoor
open Go.RowKit
open Go.Proofs
open Go.Maps (Keyed)

theorem kid_keyed : Keyed Tryd.prog 5 := Maps.int_keyed Tryd.underlying5
def keyB (c : UInt8) : Lit := .int .u8 (c.toNat : Int)
theorem keyB_wf (c : UInt8) : (keyB c).wf = true := by
  have h := c.toNat_lt
  have h1 : IntKind.u8.min = 0 := by decide
  have h2 : IntKind.u8.max = 255 := by decide
  simp only [keyB, Lit.wf, h1, h2, Bool.and_eq_true, decide_eq_true_eq]
  omega
theorem keyB_of (c : UInt8) : keyOf Tryd.prog 5 (.int .u8 (c.toNat : Int)) = some (keyB c) := Maps.keyOf_int_mk Tryd.underlying5 (keyB_wf c)
theorem keyB_inj {a b : UInt8} (h : keyB a = keyB b) : a = b := by
  unfold keyB at h
  simp only [Lit.int.injEq, true_and] at h
  exact UInt8.toNat_inj.1 (by omega)
/-- The node behind a byte. -/
def kidOf (kids : List (UInt8 × Nat)) (c : UInt8) : Option Nat := (kids.find? fun x => x.1 == c).map (·.2)
theorem kidOf_snoc (kids : List (UInt8 × Nat)) (c : UInt8) (k : Nat) (d : UInt8) : kidOf (kids ++ [(c, k)]) d = (kidOf kids d).or (if c == d then some k else none) := by
  unfold kidOf
  rw [List.find?_append]
  cases h : kids.find? (fun x => x.1 == d) with
  | some x => rfl
  | none =>
    cases h2 : c == d <;> simp [h2]
/-- The map at the block mb has the children kids. -/
def KidsAt (w : World) (mb : Nat) (kids : List (UInt8 × Nat)) : Prop :=
  ∃ D : DataW Unit, w.ownsMap Tryd.prog 5 (plainElem Tryd.prog 3) mb kids.length D ∧ (∀ x ∈ kids, x.2 ≤ 1000000) ∧
    (∀ kl, Maps.has D kl = true → ∃ c, kl = keyB c) ∧
    ∀ c : UInt8, Maps.has D (keyB c) = (kidOf kids c).isSome ∧ D.atKey (keyB c) (.lit (.int .i64 0)) = .lit (.int .i64 ((kidOf kids c).getD 0 : Nat))
theorem KidsAt.lt {w : World} {mb : Nat} {kids : List (UInt8 × Nat)} (h : KidsAt w mb kids) : mb < w.heap.size := by
  obtain ⟨D, ho, _⟩ := h
  exact ho.lt
theorem KidsAt.heap {w w' : World} {mb : Nat} {kids : List (UInt8 × Nat)} (h : KidsAt w mb kids) (hh : w'.heap[mb]? = w.heap[mb]?) : KidsAt w' mb kids := by
  obtain ⟨D, ⟨es, clock, hb, r⟩, r2⟩ := h
  exact ⟨D, ⟨es, clock, hh.trans hb, r⟩, r2⟩
theorem KidsAt.made (w : World) : KidsAt (w.alloc (.map #[] 0)) w.heap.size [] :=
  ⟨.map [], World.ownsMap_made _ _ _ _, by simp, fun kl h => by simp [Maps.has] at h, fun c => ⟨rfl, rfl⟩⟩
theorem KidsAt.put {w w' : World} {mb : Nat} {kids : List (UInt8 × Nat)} {c : UInt8} {k : Nat} {D : DataW Unit} (ho : w.ownsMap Tryd.prog 5 (plainElem Tryd.prog 3) mb kids.length D) (hb : ∀ x ∈ kids, x.2 ≤ 1000000) (hk : ∀ kl, Maps.has D kl = true → ∃ c, kl = keyB c)
    (hD : ∀ c : UInt8, Maps.has D (keyB c) = (kidOf kids c).isSome ∧ D.atKey (keyB c) (.lit (.int .i64 0)) = .lit (.int .i64 ((kidOf kids c).getD 0 : Nat)))
    (hn : kidOf kids c = none) (hle : k ≤ 1000000) (ho' : w'.ownsMap Tryd.prog 5 (plainElem Tryd.prog 3) mb (kids.length + 1) (D.put (keyB c) (.lit (.int .i64 (k : Int))))) : KidsAt w' mb (kids ++ [(c, k)]) := by
  have hkl := kid_keyed.key (keyB_of c)
  refine ⟨_, by rw [List.length_append]; exact ho', fun x hx => ?_, fun kl h => ?_, fun d => ?_⟩
  · rw [List.mem_append, List.mem_singleton] at hx
    rcases hx with hx | rfl
    · exact hb x hx
    · exact hle
  · by_cases he : kl = keyB c
    · exact ⟨c, he⟩
    · rw [Maps.has_put_other he] at h
      exact hk kl h
  · by_cases he : keyB d = keyB c
    · obtain rfl := keyB_inj he
      rw [Maps.has_put_same ho.isMap hkl, Maps.atKey_put_same ho.isMap hkl, kidOf_snoc, hn]
      simp
    · have hne : (c == d) = false := by rw [beq_eq_false_iff_ne]; rintro rfl; exact he rfl
      rw [Maps.has_put_other he, Maps.atKey_put_other he, (hD d).1, (hD d).2, kidOf_snoc, hne]
      simp
end Go.Proofs.YtaakaajcpjiccaaDoor
