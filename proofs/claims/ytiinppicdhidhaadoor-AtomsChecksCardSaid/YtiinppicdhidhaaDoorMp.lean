/-
  A map with keys of two strings, as atoms.Check makes it: what it holds, in plain words.
-/
import Derived.Test.YtiinppicdhidhaaDoorCe
import Derived.Maps.Own
import Derived.Maps.OwnOps
import Derived.Maps.OwnSet
import Derived.DeepKeys4
import Derived.WideKeyArr
set_option linter.unusedVariables false
set_option linter.unusedSimpArgs false
namespace Go.Proofs.YtiinppicdhidhaaDoor
open Go.RowKit
open Go.Proofs
open Go.WideMaps (ArrKey)
open Go.Maps (Keyed)

theorem seen_laid : laidOutB Tryd.prog = true := by kernel_rfl
theorem seen_arr : ArrKey Tryd.prog 67 9 2 := ⟨Tryd.underlying67, by kernel_rfl, by kernel_rfl, by kernel_rfl⟩
theorem seen_row : (67 : TypeId) < Tryd.prog.types.size := of_decide_eq_true (by kernel_rfl)
theorem seen_wide : (match Tryd.prog.underlying 67 with | some (.array _ _) | some (.struct _) => true | _ => false) = true := by rw [Tryd.underlying67]
set_option maxRecDepth 100000 in
theorem seen_keyed : Keyed Tryd.prog 67 := Keyed.of_law (deep_law_laid seen_laid (m := 2) (by omega) seen_row (by kernel_rfl) seen_wide)
theorem seen_zero (w : World) : (zeroValue 4).run Tryd.prog w = .ok (.bool false) w := by kernel_rfl

/-- Whether two strings stand among keys. -/
def hasK (L : List (ByteArray × ByteArray)) (x y : ByteArray) : Bool := L.any fun z => decide (z.1 = x) && decide (z.2 = y)
theorem hasK_same (L : List (ByteArray × ByteArray)) (x y : ByteArray) : hasK ((x, y) :: L) x y = true := by simp [hasK]
theorem hasK_other (L : List (ByteArray × ByteArray)) {x y a b : ByteArray} (h : ¬ (x = a ∧ y = b)) : hasK ((a, b) :: L) x y = hasK L x y := by
  have : (decide (a = x) && decide (b = y)) = false := by
    simp only [Bool.and_eq_false_iff, decide_eq_false_iff_not]
    by_cases h1 : a = x
    · exact Or.inr fun h2 => h ⟨h1.symm, h2.symm⟩
    · exact Or.inl h1
  simp only [hasK, List.any_cons, this, Bool.false_or]

/-- The key of two strings. -/
def key2 (x y : ByteArray) : Value := .agg #[.string x, .string y]
def lit2 (x y : ByteArray) : Lit := .string (keyBytes [.string x.data.toList, .string y.data.toList])
set_option maxRecDepth 100000 in
theorem key2_of {x y : ByteArray} (hx : x.size ≤ maxLen) (hy : y.size ≤ maxLen) : keyOf Tryd.prog 67 (key2 x y) = some (lit2 x y) := by
  have hkt := seen_arr.keyType ⟨_, (by kernel_rfl : Tryd.prog.types.size = (Tryd.prog.types.size - 1) + 1)⟩
  have hm : Tryd.prog.types.size = (Tryd.prog.types.size - 1) + 1 := by kernel_rfl
  have he := Tryd.underlying9
  unfold keyOf
  simp only [seen_arr.hu]
  rw [if_pos (by simp [hkt, Value.formed, seen_arr.hu, seen_arr.size, key2]), hm]
  unfold Program.keyLits
  simp only [seen_arr.hu, Value.cells, key2]
  rw [if_pos (by rw [seen_arr.size]; rfl), show List.range 2 = [0, 1] from rfl, List.mapM_cons, List.mapM_cons, List.mapM_nil]
  simp [seen_arr.one, Program.keyLits, he, hx, hy, lit2]
theorem lit2_inj {x y x' y' : ByteArray} (hx : x.size ≤ maxLen) (hy : y.size ≤ maxLen) (hx' : x'.size ≤ maxLen) (hy' : y'.size ≤ maxLen) (h : lit2 x y = lit2 x' y') : x = x' ∧ y = y' := by
  have := seen_keyed.inj (key2_of hx hy) (by rw [h]; exact key2_of hx' hy')
  simpa [key2] using this

/-- What a map of keys put down holds: L, the keys. -/
def SeenAt (w : World) (b n : Nat) (L : List (ByteArray × ByteArray)) : Prop :=
  ∃ D : DataW Unit, w.ownsMap Tryd.prog 67 (plainElem Tryd.prog 4) b n D ∧ (∀ z ∈ L, z.1.size ≤ maxLen ∧ z.2.size ≤ maxLen) ∧
    ∀ x y : ByteArray, x.size ≤ maxLen → y.size ≤ maxLen → D.atKey (lit2 x y) (.lit (.bool false)) = .lit (.bool (hasK L x y))

theorem SeenAt.lt {w : World} {b n : Nat} {L : List (ByteArray × ByteArray)} (h : SeenAt w b n L) : b < w.heap.size := by
  obtain ⟨D, ho, _⟩ := h
  exact ho.lt
theorem SeenAt.mono {w : World} {b n n' : Nat} {L : List (ByteArray × ByteArray)} (h : SeenAt w b n L) (hn : n ≤ n') : SeenAt w b n' L := by
  obtain ⟨D, ho, r⟩ := h
  exact ⟨D, ho.mono hn, r⟩
theorem SeenAt.heap {w w' : World} {b n : Nat} {L : List (ByteArray × ByteArray)} (h : SeenAt w b n L) (hh : w'.heap[b]? = w.heap[b]?) : SeenAt w' b n L := by
  obtain ⟨D, ⟨es, clock, hb, r⟩, r2⟩ := h
  exact ⟨D, ⟨es, clock, hh.trans hb, r⟩, r2⟩
theorem SeenAt.below {w w' : World} {b n B : Nat} {L : List (ByteArray × ByteArray)} (h : SeenAt w b n L) (hB : b < B) (hb : Below B w w') : SeenAt w' b n L :=
  h.heap (hb.block _ hB)
theorem SeenAt.made (w : World) : SeenAt (w.alloc (.map #[] 0)) w.heap.size 0 [] :=
  ⟨.map [], World.ownsMap_made _ _ _ _, by simp, fun x y _ _ => rfl⟩
set_option maxRecDepth 100000 in
theorem SeenAt.look {w : World} {b n : Nat} {L : List (ByteArray × ByteArray)} (h : SeenAt w b n L) {x y : ByteArray} (hx : x.size ≤ maxLen) (hy : y.size ≤ maxLen) :
    (Instr.lookup 60 (.map (some b)) (key2 x y) false).run Tryd.prog w = .ok (.bool (hasK L x y)) w := by
  obtain ⟨D, ho, _, hD⟩ := h
  have he := Tryd.underlying4
  obtain ⟨v, ps, hrun, hv⟩ := ho.lookup seen_keyed Tryd.underlying60 (seen_zero w) (plainElem_bool he false) (key2_of hx hy)
  rw [hD x y hx hy] at hv
  have : v = .bool (hasK L x y) := by
    unfold plainElem at hv
    rw [he] at hv
    cases v <;> simp at hv
    simp [hv]
  subst this
  exact hrun
set_option maxRecDepth 100000 in
theorem SeenAt.update {w : World} {b n : Nat} {L : List (ByteArray × ByteArray)} (h : SeenAt w b n L) (hn : n < maxLen) {x y : ByteArray} (hx : x.size ≤ maxLen) (hy : y.size ≤ maxLen) :
    ∃ w', (Instr.mapUpdate 60 (.map (some b)) (key2 x y) (.bool true)).run Tryd.prog w = .ok () w' ∧ SeenAt w' b (n + 1) ((x, y) :: L) ∧ w.grownBy w' (some b) := by
  obtain ⟨D, ho, hL, hD⟩ := h
  have he := Tryd.underlying4
  have hv : plainElem Tryd.prog 4 (.bool true) = some ((.lit (.bool true) : DataW Unit), []) := plainElem_bool he true
  have hk2 := key2_of hx hy
  have hu := Tryd.underlying60
  obtain ⟨w', hrun, ho', hg⟩ := World.ownsMap.update ho seen_keyed hu hn hk2 hv
  refine ⟨w', hrun, ⟨_, ho', by simpa [hx, hy] using hL, fun x' y' hx' hy' => ?_⟩, hg⟩
  by_cases hk : lit2 x' y' = lit2 x y
  · obtain ⟨rfl, rfl⟩ := lit2_inj hx' hy' hx hy hk
    rw [Maps.atKey_put_same ho.isMap (seen_keyed.key (key2_of hx' hy'))]
    rw [hasK_same]
  · rw [Maps.atKey_put_other hk, hD x' y' hx' hy']
    rw [hasK_other L (fun h => hk (by rw [h.1, h.2]))]
/-- 'x[key] = true' at the operation. -/
theorem wpList_seen {w : World} {ops : Array Oper} {rest : List Oper} {o : Oper} {a : Act} {Q : Exit → Act → World → Prop}
    (hg : o.guard = none) (m x v : Operand) (hop : o.op = Op.mapUpdate 60 m x v) (b n : Nat) (L : List (ByteArray × ByteArray))
    (hm : a.eval m = .map (some b)) (hs : SeenAt w b n L) (hn : n < maxLen) (s y : ByteArray) (hx : a.eval x = key2 s y) (hv : a.eval v = .bool true) (h1 : s.size ≤ maxLen) (h2 : y.size ≤ maxLen)
    (hK : ∀ w', SeenAt w' b (n + 1) ((s, y) :: L) → w.grownBy w' (some b) → wpList Tryd.prog ops Q rest (a.put o.dst undef) w') :
    wpList Tryd.prog ops Q (o :: rest) a w := by
  refine wpList_plain hg fun K' hK' => ?_
  obtain ⟨w', hrun, r1, r2⟩ := hs.update hn h1 h2
  unfold Oper.wp
  simp [execOp, hop, hm, hx, hv, hrun, Result.andThen]
  exact hK' _ _ (hK w' r1 r2)
end Go.Proofs.YtiinppicdhidhaaDoor
