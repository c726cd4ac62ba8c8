/-
  The contract of the iterator over a table's atoms; the table that atoms.Table tells, as plain data.
-/
import Derived.Test.YtiinppicdhidhaaDoorEa
import Derived.Test.YtiinppicdhidhaaDoorTr
set_option linter.unusedVariables false
set_option linter.unusedSimpArgs false
namespace Go.Proofs.YtiinppicdhidhaaDoor
open Go.RowKit
open Go.Proofs
open Go.Shelf
attribute [local go_sem] Oper.semAt_some

set_option maxRecDepth 100000 in
set_option maxHeartbeats 1000000 in
theorem each1_nil (F : Fence) (n : Nat) (hf : F.fn 27) (hro : F.round = none) (l Tb : Nat) (a : Option Addr) (cap : Nat) (J : List (Nat × AtomD) → World → Prop) (W : World) (hTb : W.cell? ⟨Tb, 0, none⟩ = some (.slice a 0 cap)) (h0 : J [] W) :
    CallsIn F n Tryd.prog 27 #[.func (.yield l) #[] #[], .pointer (some ⟨Tb, 0, none⟩)] W fun e W' => (∃ v, e = .returned v) ∧ J [] W' := by
  refine callsIn_of_wp Tryd.func27 rfl hf ?_ hro
  simp only [Tryd.ntmps27, List.size_toArray, List.length_cons, List.length_nil, Nat.reduceAdd, Nat.reduceSub, Array.replicate_succ, Array.replicate_zero, List.push_toArray, List.append_toArray, List.nil_append, List.cons_append]
  gi_wp2
  gi_loopw [8] (fun i wr => i = .int .i64 0 ∧ J [] wr) (fun _ _ => 0)
  case atStart => exact ⟨rfl, h0⟩
  case round =>
    obtain ⟨rfl, hJs⟩ := hrel
    gi_wp2
    go_end0
    exact ⟨⟨_, rfl⟩, hJs⟩
/-- A slice of atoms at a world: of none, or in a block below the heap's end that is none of the boxes bx. -/
def SlBxA (w : World) (bx : List Nat) (a : Option Addr) (t : List AtomD) : Prop := t = [] ∨ ∃ b off, a = some ⟨b, off, none⟩ ∧ w.rangeAt b off (atomsL t) ∧ b ∉ bx ∧ b < w.heap.size
theorem cell_under {w W : World} {p : Addr} {v : Value} (h : w.cell? p = some v) (hb : Below w.heap.size w W) : W.cell? p = some v := by
  have := World.block_lt_of_cell? w p h
  exact (hb.cell (p := p) this).trans h
theorem each_seq (F : Fence) (n : Nat) (hf : F.fn 27) (hro : F.round = none) (hn : 1 ≤ n) (Tb : Nat) (bx : List Nat) (a : Option Addr) (cap : Nat) (t : List AtomD) (hlen : t.length ≤ 10000) (w : World)
    (hTb : w.cell? ⟨Tb, 0, none⟩ = some (.slice a t.length cap)) (hS : SlBxA w bx a t) :
    SeqO F n Tryd.prog 27 #[.pointer (some ⟨Tb, 0, none⟩)] encE (KeepC bx) (fun ys => ys = firstA t t.length) (fun pre => ∃ k, k ≤ t.length ∧ pre = firstA t k) (okE t) w := by
  rcases hS with rfl | ⟨b, off, rfl, h2, h3, h4⟩
  · intro l J Jx W hW _ _ _ _ h0
    exact (each1_nil F n hf hro l Tb a cap J W (cell_under hTb hW) h0).mono fun e W' ⟨he, hj⟩ => ⟨he, .inl ⟨_, rfl, hj⟩⟩
  · exact fun l J Jx W hW _ hJ _ hY h0 => each1_in F n hf hro hn l Tb b off cap bx t hlen h3 J Jx W.heap.size hJ hY W (cell_under hTb hW) (range_below h2 hW h4) h0
set_option maxHeartbeats 1000000 in
/-- atoms.Each: the table is boxed; the function value captures the box. -/
theorem each_in (F : Fence) (n : Nat) (hf : F.fn 16) (hro : F.round = none) (a : Option Addr) (len cap : Nat) (a2 : Option Addr) (len2 cap2 : Nat) (w : World) :
    CallsIn F n Tryd.prog 16 #[.agg #[.slice a len cap, .slice a2 len2 cap2]] w fun e w' =>
      e = .returned (.func (.func 27) #[] #[.pointer (some ⟨w.heap.size, 0, none⟩)]) ∧ w' = w.alloc (.cells #[.slice a len cap, .slice a2 len2 cap2] 27) := by
  refine callsIn_of_wp Tryd.func16 rfl hf ?_ hro
  simp only [Tryd.ntmps16, List.size_toArray, List.length_cons, List.length_nil, Nat.reduceAdd, Nat.reduceSub, Array.replicate_succ, Array.replicate_zero, List.push_toArray, List.append_toArray, List.nil_append, List.cons_append]
  gi_wp2
  go_ret
  exact ⟨rfl, rfl⟩
/-! The table that is told. -/
def slOf (v : Value) : Option Addr × Nat × Nat := match v with | .slice a n c => (a, n, c) | _ => (none, 0, 0)
theorem slOf_eq {v : Value} (h : ∃ a n c, v = .slice a n c) : v = .slice (slOf v).1 (slOf v).2.1 (slOf v).2.2 := by
  obtain ⟨a, n, c, rfl⟩ := h
  rfl
def rowD (ss : Nat → Value) (i : Nat) : AtomD := ⟨⟨(codeAt i 0).toArray⟩, ⟨(codeAt i 1).toArray⟩, ⟨(codeAt i 2).toArray⟩, ⟨(codeAt i 3).toArray⟩, ⟨(codeAt i 4).toArray⟩, (rowAt i).metric, (rowAt i).tag, baseAt i, (rowAt i).num, (rowAt i).den, (rowAt i).ten, (slOf (ss i)).1, (slOf (ss i)).2.1, (slOf (ss i)).2.2⟩
def tabD (ss : Nat → Value) : List AtomD := (List.range 48).map (rowD ss)
theorem tabD_length (ss : Nat → Value) : (tabD ss).length = 48 := by simp [tabD]
theorem tabD_at (ss : Nat → Value) {k : Nat} (hk : k < 48) : (tabD ss)[k]?.getD default = rowD ss k := by
  simp [tabD, hk]
theorem flatMap_congr' {α : Type} {f g : α → List Value} : ∀ {l : List α}, (∀ x ∈ l, f x = g x) → l.flatMap f = l.flatMap g
  | [], _ => rfl
  | x :: l, h => by
    rw [List.flatMap_cons, List.flatMap_cons, h x (by simp), flatMap_congr' fun y hy => h y (by simp [hy])]
theorem tabD_cells (ss : Nat → Value) (hss : ∀ i, i < 48 → ∃ a l c, ss i = .slice a l c) : atomsV 48 ss = atomsL (tabD ss) := by
  unfold atomsV atomsL tabD
  rw [List.flatMap_map]
  refine flatMap_congr' fun i hi => ?_
  have hi' : i < 48 := List.mem_range.1 hi
  rw [atomV_at _ i hi' _ rfl]
  have he := slOf_eq (hss i hi')
  simp only [atomArr, atomL, rowD]
  rw [← he]
/-- atoms.Table's answer as plain data. -/
def TabOk (w : World) (e : Ending) (w' : World) : Prop := ∃ g c1 a2 c2 ss, e = .returned (.agg #[.slice (some ⟨g, 0, none⟩) 48 c1, .slice a2 20 c2]) ∧ w'.rangeAt g 0 (atomsL (tabD ss)) ∧ w.heap.size ≤ g ∧ TableAt w.heap.size w' (.slice (some ⟨g, 0, none⟩) 48 c1) (.slice a2 20 c2) ss ∧ Below w.heap.size w w'
theorem tab_ok (w : World) (hL : Laid w) : Calls Tryd.prog 10 #[] w (TabOk w) := (table_ok w hL).mono fun e w' h => by
  obtain ⟨a1, c1, a2, c2, ss, rfl, ht, hb⟩ := h
  obtain ⟨g, cap, hg⟩ := form_of ht.atoms (by omega)
  simp only [Value.slice.injEq] at hg
  obtain ⟨rfl, -, rfl⟩ := hg
  refine ⟨g, c1, a2, c2, ss, rfl, ?_, (World.ownsRow.lt ht.atoms g rfl).1, ht, hb⟩
  have hr := rangeOf ht.atoms 0 (48 * 12) (atomsL (tabD ss)) (by
    rw [List.drop_zero, tabD_cells ss ht.slices, List.take_of_length_le]
    rw [atomsL_length, tabD_length]
    exact Nat.le_refl _)
  exact hr
end Go.Proofs.YtiinppicdhidhaaDoor
