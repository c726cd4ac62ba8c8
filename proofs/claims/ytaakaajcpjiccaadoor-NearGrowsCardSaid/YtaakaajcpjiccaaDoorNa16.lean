/-
  The contract of the iterator over a table's atoms; the table that atoms.Table tells, as plain data. Symbols in plain words: which atom a code is, what a symbol is found to be, its text, whether it is told; all of a notation.
-/
import Derived.Test.YtaakaajcpjiccaaDoorNa14
import Derived.Test.YtaakaajcpjiccaaDoorNa15
set_option linter.unusedVariables false
set_option linter.unusedSimpArgs false
namespace Go.Proofs.YtaakaajcpjiccaaDoor
open Go.RowKit
open Go.Proofs
open Go.Shelf
attribute [local go_sem] Oper.semAt_some

set_option maxRecDepth 100000 in
set_option maxHeartbeats 1000000 in
theorem each1_nil (F : Fence) (n : Nat) (hf : F.fn 67) (hro : F.round = none) (l Tb : Nat) (a : Option Addr) (cap : Nat) (J : List (Nat × AtomD) → World → Prop) (W : World) (hTb : W.cell? ⟨Tb, 0, none⟩ = some (.slice a 0 cap)) (h0 : J [] W) :
    CallsIn F n Tryd.prog 67 #[.func (.yield l) #[] #[], .pointer (some ⟨Tb, 0, none⟩)] W fun e W' => (∃ v, e = .returned v) ∧ J [] W' := by
  refine callsIn_of_wp Tryd.func67 rfl hf ?_ hro
  simp only [Tryd.ntmps67, List.size_toArray, List.length_cons, List.length_nil, Nat.reduceAdd, Nat.reduceSub, Array.replicate_succ, Array.replicate_zero, List.push_toArray, List.append_toArray, List.nil_append, List.cons_append]
  gi_wp2
  gi_loopw [8] (fun i wr => i = .int .i64 0 ∧ J [] wr) (fun _ _ => 0)
  case atStart => exact ⟨rfl, h0⟩
  case round =>
    obtain ⟨rfl, hJs⟩ := hrel
    gi_wp2
    go_end0
    exact ⟨⟨_, rfl⟩, hJs⟩
/-- A slice of atoms at a world: of none, or in a block below the heap's end that is none of the boxes bx. -/
def SlBxA (w : World) (bx : List Nat) (a : Option Addr) (t : List AtomD) : Prop := t = [] ∨ ∃ b off, a = some ⟨b, off, none⟩ ∧ w.rangeAt b off (atomsL t) ∧ b ∉ bx ∧ b < w.heap.size
theorem cell_under {w W : World} {p : Addr} {v : Value} (h : w.cell? p = some v) (hb : Below w.heap.size w W) : W.cell? p = some v := by
  have := World.block_lt_of_cell? w p h
  exact (hb.cell (p := p) this).trans h
theorem each_seq (F : Fence) (n : Nat) (hf : F.fn 67) (hro : F.round = none) (hn : 1 ≤ n) (Tb : Nat) (bx : List Nat) (a : Option Addr) (cap : Nat) (t : List AtomD) (hlen : t.length ≤ 10000) (w : World)
    (hTb : w.cell? ⟨Tb, 0, none⟩ = some (.slice a t.length cap)) (hS : SlBxA w bx a t) :
    SeqO F n Tryd.prog 67 #[.pointer (some ⟨Tb, 0, none⟩)] encE (KeepC bx) (fun ys => ys = firstA t t.length) (fun pre => ∃ k, k ≤ t.length ∧ pre = firstA t k) (okE t) w := by
  rcases hS with rfl | ⟨b, off, rfl, h2, h3, h4⟩
  · intro l J Jx W hW _ _ _ _ h0
    exact (each1_nil F n hf hro l Tb a cap J W (cell_under hTb hW) h0).mono fun e W' ⟨he, hj⟩ => ⟨he, .inl ⟨_, rfl, hj⟩⟩
  · exact fun l J Jx W hW _ hJ _ hY h0 => each1_in F n hf hro hn l Tb b off cap bx t hlen h3 J Jx W.heap.size hJ hY W (cell_under hTb hW) (range_below h2 hW h4) h0
set_option maxHeartbeats 1000000 in
/-- atoms.Each: the table is boxed; the function value captures the box. -/
theorem each_in (F : Fence) (n : Nat) (hf : F.fn 45) (hro : F.round = none) (a : Option Addr) (len cap : Nat) (a2 : Option Addr) (len2 cap2 : Nat) (w : World) :
    CallsIn F n Tryd.prog 45 #[.agg #[.slice a len cap, .slice a2 len2 cap2]] w fun e w' =>
      e = .returned (.func (.func 67) #[] #[.pointer (some ⟨w.heap.size, 0, none⟩)]) ∧ w' = w.alloc (.cells #[.slice a len cap, .slice a2 len2 cap2] 89) := by
  refine callsIn_of_wp Tryd.func45 rfl hf ?_ hro
  simp only [Tryd.ntmps45, List.size_toArray, List.length_cons, List.length_nil, Nat.reduceAdd, Nat.reduceSub, Array.replicate_succ, Array.replicate_zero, List.push_toArray, List.append_toArray, List.nil_append, List.cons_append]
  gi_wp2
  go_ret
  exact ⟨rfl, rfl⟩
/-! The table that is told. -/
def slOf (v : Value) : Option Addr × Nat × Nat := match v with | .slice a n c => (a, n, c) | _ => (none, 0, 0)
theorem slOf_eq {v : Value} (h : ∃ a n c, v = .slice a n c) : v = .slice (slOf v).1 (slOf v).2.1 (slOf v).2.2 := by
  obtain ⟨a, n, c, rfl⟩ := h
  rfl
def rowD (ss : Nat → Value) (i : Nat) : AtomD := ⟨⟨(codeAt i 0).toArray⟩, ⟨(codeAt i 1).toArray⟩, ⟨(codeAt i 2).toArray⟩, ⟨(codeAt i 3).toArray⟩, ⟨(codeAt i 4).toArray⟩, (rowAt i).metric, (rowAt i).tag, baseAt i, (rowAt i).num, (rowAt i).den, (rowAt i).ten, (slOf (ss i)).1, (slOf (ss i)).2.1, (slOf (ss i)).2.2⟩
def tabD (ss : Nat → Value) : List AtomD := (List.range 48).map (rowD ss)
theorem tabD_length (ss : Nat → Value) : (tabD ss).length = 48 := by simp [tabD]
theorem tabD_at (ss : Nat → Value) {k : Nat} (hk : k < 48) : (tabD ss)[k]?.getD default = rowD ss k := by
  simp [tabD, hk]
theorem flatMap_congr' {α : Type} {f g : α → List Value} : ∀ {l : List α}, (∀ x ∈ l, f x = g x) → l.flatMap f = l.flatMap g
  | [], _ => rfl
  | x :: l, h => by
    rw [List.flatMap_cons, List.flatMap_cons, h x (by simp), flatMap_congr' fun y hy => h y (by simp [hy])]
theorem tabD_cells (ss : Nat → Value) (hss : ∀ i, i < 48 → ∃ a l c, ss i = .slice a l c) : atomsV 48 ss = atomsL (tabD ss) := by
  unfold atomsV atomsL tabD
  rw [List.flatMap_map]
  refine flatMap_congr' fun i hi => ?_
  have hi' : i < 48 := List.mem_range.1 hi
  rw [atomV_at _ i hi' _ rfl]
  have he := slOf_eq (hss i hi')
  simp only [atomArr, atomL, rowD]
  rw [← he]
/-- atoms.Table's answer as plain data. -/
def TabOk (w : World) (e : Ending) (w' : World) : Prop := ∃ g c1 a2 c2 ss, e = .returned (.agg #[.slice (some ⟨g, 0, none⟩) 48 c1, .slice a2 20 c2]) ∧ w'.rangeAt g 0 (atomsL (tabD ss)) ∧ w.heap.size ≤ g ∧ TableAt w.heap.size w' (.slice (some ⟨g, 0, none⟩) 48 c1) (.slice a2 20 c2) ss ∧ Below w.heap.size w w'
theorem tab_ok (w : World) (hL : Laid w) : Calls Tryd.prog 66 #[] w (TabOk w) := (table_ok w hL).mono fun e w' h => by
  obtain ⟨a1, c1, a2, c2, ss, rfl, ht, hb⟩ := h
  obtain ⟨g, cap, hg⟩ := form_of ht.atoms (by omega)
  simp only [Value.slice.injEq] at hg
  obtain ⟨rfl, -, rfl⟩ := hg
  refine ⟨g, c1, a2, c2, ss, rfl, ?_, (World.ownsRow.lt ht.atoms g rfl).1, ht, hb⟩
  have hr := rangeOf ht.atoms 0 (48 * 12) (atomsL (tabD ss)) (by
    rw [List.drop_zero, tabD_cells ss ht.slices, List.take_of_length_le]
    rw [atomsL_length, tabD_length]
    exact Nat.le_refl _)
  exact hr
end Go.Proofs.YtaakaajcpjiccaaDoor
namespace Go.Proofs.YtaakaajcpjiccaaDoor

/-- The atom of a code, in the notation m + 1. -/
def atomF (m : Nat) (s : List UInt8) : Option Nat := if s.isEmpty then none else (List.range 48).find? fun i => codeAt i m == s
/-- What is left of a symbol behind a prefix: an atom that is metric. -/
def preF (m : Nat) (s : List UInt8) (p : Nat) : Option Nat :=
  if (preCodeAt p m).isEmpty then none
  else if (preCodeAt p m).isPrefixOf s then (atomF m (s.drop (preCodeAt p m).length)).filter fun a => (rowAt a).metric
  else none
def findF (m : Nat) (s : List UInt8) : Option (Int × Nat) :=
  match atomF m s with
  | some a => some (-1, a)
  | none => match (List.range 20).find? fun p => (preF m s p).isSome with
    | some p => (preF m s p).map fun a => ((p : Int), a)
    | none => none
/-- A symbol's text: of the prefix q - 1 (none: q = 0). -/
def textF (m : Nat) (q a : Nat) : List UInt8 :=
  if q = 0 ∨ (codeAt a m).isEmpty then codeAt a m
  else if (preCodeAt (q - 1) m).isEmpty ∨ (rowAt a).metric = false then []
  else preCodeAt (q - 1) m ++ codeAt a m
def toldF (m : Nat) (q a : Nat) : Bool := !(textF m q a).isEmpty && findF m (textF m q a) == some ((q : Int) - 1, a)
/-- The symbols of a notation, by prefixes, and atoms. -/
def symsQ (m q : Nat) : List (List UInt8 × Nat × Nat) := ((List.range 48).filter fun a => toldF m q a).map fun a => (textF m q a, q, a)
def symsF (m : Nat) : List (List UInt8 × Nat × Nat) := (List.range 21).flatMap fun q => symsQ m q
def symRow (m : Nat) : List (List UInt8) := (symsF m).map (·.1)
theorem atomF_some {m : Nat} {s : List UInt8} {a : Nat} (h : atomF m s = some a) : a < 48 ∧ codeAt a m = s := by
  unfold atomF at h
  split at h
  · cases h
  · have h1 := List.mem_of_find?_eq_some h
    have h2 := List.find?_some h
    exact ⟨by simpa using h1, by simpa using h2⟩
theorem symsF_mem {m : Nat} {x : List UInt8 × Nat × Nat} (h : x ∈ symsF m) : x.1 = textF m x.2.1 x.2.2 ∧ toldF m x.2.1 x.2.2 = true ∧ x.2.1 < 21 ∧ x.2.2 < 48 := by
  unfold symsF at h
  rw [List.mem_flatMap] at h
  obtain ⟨q, hq, hx⟩ := h
  unfold symsQ at hx
  rw [List.mem_map] at hx
  obtain ⟨a, ha, rfl⟩ := hx
  rw [List.mem_filter] at ha
  exact ⟨rfl, ha.2, by simpa using hq, by simpa using ha.1⟩
/-- No two symbols have one text. -/
theorem syms_inj {m : Nat} {x y : List UInt8 × Nat × Nat} (hx : x ∈ symsF m) (hy : y ∈ symsF m) (h : x.1 = y.1) : x = y := by
  obtain ⟨x1, x2, _, _⟩ := symsF_mem hx
  obtain ⟨y1, y2, _, _⟩ := symsF_mem hy
  have h2 : textF m x.2.1 x.2.2 = textF m y.2.1 y.2.2 := by rw [← x1, ← y1, h]
  unfold toldF at x2 y2
  simp only [Bool.and_eq_true, beq_iff_eq] at x2 y2
  rw [h2, y2.2] at x2
  have h3 := x2.2
  simp only [Option.some.injEq, Prod.mk.injEq] at h3
  obtain ⟨xs, xq, xa⟩ := x
  obtain ⟨ys, yq, ya⟩ := y
  simp only at h h3 ⊢
  obtain ⟨e1, e2⟩ := h3
  have : xq = yq := by omega
  rw [h, this, e2]
theorem codeAt_short' : ∀ i, i < 48 → ∀ j, j < 5 → (codeAt i j).length ≤ 8 := by decide +kernel
theorem preCode_short' : ∀ i, i < 20 → ∀ j, j < 5 → (preCodeAt i j).length ≤ 8 := by decide +kernel
theorem textF_short (m q a : Nat) (hm : m < 5) (hq : q < 21) (ha : a < 48) : (textF m q a).length ≤ 16 := by
  have h1 := codeAt_short' a ha m hm
  unfold textF
  split
  · omega
  · rename_i hc
    have hq0 : q ≠ 0 := fun e => hc (.inl e)
    have h2 := preCode_short' (q - 1) (by omega) m hm
    split
    · simp
    · rw [List.length_append]; omega
theorem syms_nodup (m : Nat) : (symRow m).Nodup := by
  unfold symRow
  have hn : (symsF m).Nodup := by
    unfold symsF
    rw [List.nodup_iff_pairwise_ne, List.pairwise_flatMap]
    refine ⟨fun q _ => ?_, ?_⟩
    · unfold symsQ
      rw [← List.nodup_iff_pairwise_ne]
      refine List.Pairwise.map _ (fun a b hab e => hab ?_) (List.Pairwise.filter _ List.nodup_range)
      exact (Prod.mk.inj (Prod.mk.inj e).2).2
    · refine List.Pairwise.imp (fun {p q} (hpq : p < q) x hx y hy e => ?_) List.pairwise_lt_range
      unfold symsQ at hx hy
      rw [List.mem_map] at hx hy
      obtain ⟨a, _, rfl⟩ := hx
      obtain ⟨b, _, rfl⟩ := hy
      have := (Prod.mk.inj (Prod.mk.inj e).2).1
      omega
  rw [List.nodup_iff_pairwise_ne, List.pairwise_map]
  refine List.Pairwise.imp_of_mem (fun {x y} hx hy hne e => hne (syms_inj hx hy e)) hn
end Go.Proofs.YtaakaajcpjiccaaDoor
