/-
  atoms.Check, in plain words; 'clear' of the map.
-/
import Derived.Test.YtiinppicdhidhaaDoorWv
set_option linter.unusedVariables false
set_option linter.unusedSimpArgs false
namespace Go.Proofs.YtiinppicdhidhaaDoor
open Go.RowKit
open Go.Proofs

set_option maxRecDepth 100000 in
/-- 'clear(x)': a world in which the map holds nothing. -/
theorem SeenAt.clear {w : World} {b n : Nat} {L : List (ByteArray × ByteArray)} (h : SeenAt w b n L) (ty : TypeId) :
    ∃ w', (Builtin.clear_ #[60] ty #[.map (some b)]).run Tryd.prog w = .ok (.tuple #[]) w' ∧ SeenAt w' b 0 [] ∧ w.grownBy w' (some b) := by
  obtain ⟨D, ⟨es, clock, hb, r⟩, r2⟩ := h
  have hm := Tryd.underlying60
  have hrun : (Builtin.clear_ #[60] ty #[.map (some b)]).run Tryd.prog w = .ok (.tuple #[]) (ChangeMaps.setBlock w b (.map #[] clock)) := by
    simp [Builtin.clear_, run_underlying hm, MapKept.run_getObj_map hb, MapKept.run_setObj_map _ hb, Result.andThen, ChangeMaps.setBlock]
  refine ⟨_, hrun, ⟨.map [], ⟨#[], clock, ChangeMaps.heap_setBlock_same hb _, ⟨by simp, MapKept.stamped_empty clock, by simp⟩, Nat.le_refl _, rfl⟩, by simp, fun x y _ _ => rfl⟩, ?_⟩
  exact ⟨rfl, rfl, rfl, by simp [ChangeMaps.setBlock], fun i _ hi => ChangeMaps.heap_setBlock_other hb _ (fun e => hi (by rw [e]))⟩
theorem wpListIn_clear {F : Fence} {n : Nat} {w : World} {ops : Array Oper} {rest : List Oper} {o : Oper} {a : Act} {Q : Exit → Act → World → Prop} (hg : o.guard = none) (m : Operand)
    (hop : o.op = Op.call { callee := Callee.builtin Builtin.clear, args := #[m], argTypes := #[60] }) (b k : Nat) (L : List (ByteArray × ByteArray)) (hm : a.eval m = .map (some b)) (hs : SeenAt w b k L)
    (hK : ∀ w', SeenAt w' b 0 [] → w.grownBy w' (some b) → wpListIn F n Tryd.prog ops Q rest (a.put o.dst (.tuple #[])) w') : wpListIn F n Tryd.prog ops Q (o :: rest) a w := by
  refine wpListIn_plain hg fun K' hK' => ?_
  obtain ⟨w', hrun, r1, r2⟩ := hs.clear o.type
  unfold Oper.wpIn
  refine ⟨by simp [Oper.about, hop, resolve, Target.leads, Sem.run_pure], ?_⟩
  rw [Oper.semAt_plain F _ _ (by rw [hop]; intro c hc'; cases hc')]
  simp [execOp, hop, resolve, invoke, builtin, hm, hrun, Result.andThen]
  exact hK' _ _ (hK w' r1 r2)

/-- Codes of an atom. -/
def codesA (x : AtomD) : Nat → ByteArray
  | 0 => x.c0
  | 1 => x.c1
  | 2 => x.c2
  | 3 => x.c3
  | 4 => x.c4
  | _ => ⟨#[]⟩
/-- A prefix as plain data. -/
structure PrefD where
  c0 : ByteArray
  c1 : ByteArray
  c2 : ByteArray
  c3 : ByteArray
  c4 : ByteArray
  ten : Int
  deriving Inhabited
def codesP (x : PrefD) : Nat → ByteArray
  | 0 => x.c0
  | 1 => x.c1
  | 2 => x.c2
  | 3 => x.c3
  | 4 => x.c4
  | _ => ⟨#[]⟩
def prefL (x : PrefD) : List Value := [.string x.c0, .string x.c1, .string x.c2, .string x.c3, .string x.c4, .int .i64 x.ten]
/-- The keys of the first k rows. -/
def keysOf (cs : Nat → Nat → ByteArray) : Nat → List (ByteArray × ByteArray)
  | 0 => []
  | k + 1 => (takeK (cs k) (keysOf cs k) 5).2
def csA (t : List AtomD) (i : Nat) : Nat → ByteArray := codesA (t[i]?.getD default)
def csP (p : List PrefD) (i : Nat) : Nat → ByteArray := codesP (p[i]?.getD default)
def okA (t : List AtomD) (T : Nat → List (Int × Int)) (i : Nat) : Bool := (takeK (csA t i) (keysOf (csA t) i) 5).1 && worthS t (T i) i
def okP (p : List PrefD) (i : Nat) : Bool := (takeK (csP p i) (keysOf (csP p) i) 5).1 && (decide (-30 ≤ (p[i]?.getD default).ten) && decide ((p[i]?.getD default).ten ≤ 30))
/-- What atoms.Check answers. -/
def checkS (t : List AtomD) (T : Nat → List (Int × Int)) (p : List PrefD) : Int :=
  if 100 < t.length ∨ 30 < p.length then (t.length : Int) + p.length
  else match (List.range t.length).find? (fun i => !okA t T i) with
  | some i => i
  | none => match (List.range p.length).find? (fun i => !okP p i) with
    | some j => (t.length : Int) + j
    | none => -1
end Go.Proofs.YtiinppicdhidhaaDoor
