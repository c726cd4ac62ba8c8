/-
  The table's rows as the Go text builds them: the contract of 'atoms.rows'.
-/
import Derived.WalkKit
import Derived.Test.YtaakaajcpjiccaaDoorProg
import Derived.Test.YtaakaajcpjiccaaDoorNa07
import Derived.Test.YtaakaajcpjiccaaDoorNa08
set_option linter.unusedVariables false
set_option linter.unusedSimpArgs false
namespace Go.Proofs.YtaakaajcpjiccaaDoor
open Go.RowKit
open Go.Proofs (Tryd.prog)

def strV (l : List UInt8) : Value := .string ⟨l.toArray⟩
def intV (n : Int) : Value := .int .i64 n
def termV (t : Int × Int) : List Value := [intV t.1, intV t.2]
def termsV (ts : List (Int × Int)) : List Value := ts.flatMap termV
/-- The slice of a row's terms, its block being the k-th behind B. -/
def termSl (B k : Nat) : List (Int × Int) → Value
  | [] => .slice none 0 0
  | _ :: r => .slice (some ⟨B + k, 0, none⟩) (r.length + 1) (r.length + 1)
def nextK (k : Nat) : List (Int × Int) → Nat
  | [] => k
  | _ => k + 1
def rowV (s : Value) (r : RowD) : List Value := r.codes.map strV ++ [.bool r.metric, intV r.tag, intV r.num, intV r.den, intV r.ten, s]
def rowsV (B : Nat) : Nat → List RowD → List Value
  | _, [] => []
  | k, r :: rs => rowV (termSl B k r.terms) r ++ rowsV B (nextK k r.terms) rs
def rowsN : List RowD → List Obj
  | [] => []
  | r :: rs => match r.terms with
    | [] => rowsN rs
    | ts => .cells (termsV ts).toArray 98 :: rowsN rs

def regOf (id : Nat) : Code → Option (Array Oper)
  | .region i ops _ => if i = id then some ops else none
  | .seq x y => match regOf id x with
    | some o => some o
    | none => regOf id y
  | .cond _ x y => match regOf id x with
    | some o => some o
    | none => regOf id y
  | .block _ x | .loop x | .scope x => regOf id x
  | _ => none
def regs (f : Func) (id : Nat) : Array Oper := (f.body.bind (regOf id)).getD #[]

theorem rows_body : Tryd.f83.body = some (.seq (.region 0 (regs Tryd.f83 0) false) (.seq (.region 1 (regs Tryd.f83 1) false) .ret)) := by kernel_rfl
def zeroOf (P : Program) (t : TypeId) : Array Value := (((P.info? t).bind (·.zero)).map Value.cells).getD #[]
def rowsA : Act := ⟨Array.replicate 190 undef, []⟩
def rowsE (B : Nat) : List (Nat × Value) := [(0, .pointer (some ⟨B, 0, none⟩))]
theorem rows_ev0 (B : Nat) : opsNew Tryd.prog B rowsA (regs Tryd.f83 0).toList [] [] = some (rowsE B, [.cells (zeroOf Tryd.prog 150) 150]) := by kernel_rfl
theorem rows_ev (B : Nat) (z : Array Value) :
    (opsNew Tryd.prog B rowsA ((regs Tryd.f83 1).toList.take 189) (rowsE B) [.cells z 150]).map (fun r => (r.1.lookup 0, r.1.lookup 189, r.2)) = some (some (.pointer (some ⟨B, 0, none⟩)), some (.agg (rowsV B 1 tabRows).toArray), .cells z 150 :: rowsN tabRows) := by kernel_rfl
noncomputable def rowsLast : Oper := (((regs Tryd.f83 1).toList.drop 189)[0]?).getD default
theorem rows_drop : (regs Tryd.f83 1).toList.drop 189 = [rowsLast] := by kernel_rfl
theorem rows_last_op : rowsLast.op = .store 150 (.tmp 0) (.tmp 189) := by kernel_rfl
theorem rows_last_g : rowsLast.guard = none := by kernel_rfl
theorem rows_last_d : rowsLast.dst = none := by kernel_rfl
theorem rows_one (B : Nat) : (rowsV B 1 tabRows).toArray.all (·.oneCell') = true := by kernel_rfl
theorem rows_size (B : Nat) : (rowsV B 1 tabRows).toArray.size = 528 := by kernel_rfl
theorem rows_zsize : (zeroOf Tryd.prog 150).size = 528 := by kernel_rfl
theorem rows_info : (Tryd.prog.info? 150).map (·.size) = some 528 := by kernel_rfl
theorem rows_results : Tryd.f83.results = #[.cell 0 150] := by kernel_rfl

theorem news_setRow (w : World) (c c' : Array Value) (t : TypeId) (N : List Obj) : (news w (.cells c t :: N)).setRow w.heap.size c' = news w (.cells c' t :: N) := by
  have e : (w.heap ++ (Obj.cells c t :: N).toArray).modify w.heap.size (fun | .cells _ elem frozen => .cells c' elem frozen | o => o) = w.heap ++ (Obj.cells c' t :: N).toArray := by
    apply Array.ext
    · simp
    · intro i h1 h2
      rw [Array.getElem_modify]
      rcases Nat.lt_trichotomy i w.heap.size with h | h | h
      · rw [if_neg (by omega), Array.getElem_append_left h, Array.getElem_append_left h]
      · subst h
        simp
      · rw [if_neg (by omega), Array.getElem_append_right (by omega), Array.getElem_append_right (by omega)]
        obtain ⟨j, hj⟩ : ∃ j, i - w.heap.size = j + 1 := ⟨i - w.heap.size - 1, by omega⟩
        simp [hj]
  show ({ w with heap := _ } : World) = _
  exact congrArg (fun h => ({ w with heap := h } : World)) e

theorem rows_calls (w : World) : Calls Tryd.prog 83 #[] w fun e w' =>
    e = .returned (.agg (rowsV w.heap.size 1 tabRows).toArray) ∧ w' = news w (.cells (rowsV w.heap.size 1 tabRows).toArray 150 :: rowsN tabRows) := by
  refine calls_of_wp Tryd.func83 rows_body ?_
  rw [Tryd.ntmps83]
  have e0 : ({ tmps := #[] ++ Array.replicate (190 - (#[] : Array Value).size) undef, defers := [] } : Act) = rowsA := by simp [rowsA]
  rw [e0]
  refine wp_seq_k fun K hK => wp_region_list ?_
  have hn := news_nil w
  rw [← hn]
  rw [show (regs Tryd.f83 0).toList = (regs Tryd.f83 0).toList ++ [] from (List.append_nil _).symm]
  refine wpList_opsNew (rows_ev0 w.heap.size) ⟨fun x => by cases x <;> simp [look, Act.eval], rfl, rfl⟩ fun a1 h1 => ?_
  refine wpList_nil ?_
  show K a1 _
  refine hK _ _ ?_
  refine wp_seq_k fun K2 hK2 => wp_region_list ?_
  rw [← List.take_append_drop 189 (regs Tryd.f83 1).toList]
  obtain ⟨⟨env, N⟩, hev, hm⟩ := Option.map_eq_some_iff.1 (rows_ev w.heap.size (zeroOf Tryd.prog 150))
  simp only [Prod.mk.injEq] at hm
  obtain ⟨l0, l1, rfl⟩ := hm
  refine wpList_opsNew hev h1 fun a2 h2 => ?_
  rw [rows_drop]
  have x0 : a2.eval (.tmp 0) = .pointer (some ⟨w.heap.size, 0, none⟩) := by rw [h2.eval]; simp [look, l0]
  have x1 : a2.eval (.tmp 189) = .agg (rowsV w.heap.size 1 tabRows).toArray := by rw [h2.eval]; simp [look, l1]
  have hb : (news w (.cells (zeroOf Tryd.prog 150) 150 :: rowsN tabRows)).heap[w.heap.size]? = some (.cells (zeroOf Tryd.prog 150) 150 (0, 0)) := news_new w _ 0 _ rfl
  refine wpList_store_row rows_last_g _ _ _ rows_last_op w.heap.size _ x0 x1 _ _ hb (by rw [rows_info, rows_size]) (by rw [rows_size, rows_zsize]) (rows_one _) ?_
  rw [news_setRow]
  refine wpList_nil ?_
  show K2 _ _
  refine hK2 _ _ ?_
  refine wp_ret ?_
  have hb2 : (news w (.cells (rowsV w.heap.size 1 tabRows).toArray 150 :: rowsN tabRows)).heap[w.heap.size]? = some (.cells (rowsV w.heap.size 1 tabRows).toArray 150 (0, 0)) := news_new w _ 0 _ rfl
  refine bodyPost_ret (results_cell_row rows_results _ _ w.heap.size _ _ _ _ ?_ hb2 Tryd.underlying150 rfl (by rw [rows_info, rows_size])) ?_ ⟨rfl, rfl⟩
  · have := x0
    simp only [Act.eval] at this
    rw [rows_last_d]
    exact this
  · rw [rows_last_d]
    exact h2.defers
end Go.Proofs.YtaakaajcpjiccaaDoor
