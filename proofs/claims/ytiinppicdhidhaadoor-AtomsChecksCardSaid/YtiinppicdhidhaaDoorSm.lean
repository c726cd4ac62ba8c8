/-
  The law's own spoilt: the states it goes through, in plain words; append onto a row of the call's own, whatever is appended.
-/
import Derived.Test.YtiinppicdhidhaaDoorSa
import Derived.Maps.AppendAt
import Derived.Deep.AppendSrc
import Derived.Deep.AppendLies
import Derived.IntWalk
import Derived.Deep.RegionLaw
set_option linter.unusedVariables false
set_option linter.unusedSimpArgs false
namespace Go.Proofs.YtiinppicdhidhaaDoor
open Go.RowKit
open Go.Proofs

/-- What is appended: nothing, or cells that lie at an address. -/
def SrcAt (w : World) (ad : Option Addr) (m size : Nat) (news : List Value) : Prop := news.length = m * size ∧ ((ad = none ∧ m = 0) ∨ ∃ a, ad = some a ∧ ∀ j u, news[j]? = some u → w.cell? (a.add j) = some u)
theorem run_appG (w : World) (B : Nat) (t ty e : TypeId) (i0 : TypeInfo) (z : Value) (size bytes : Nat) (ht : Tryd.prog.underlying t = some (.slice e)) (hi : Tryd.prog.info? e = some i0) (hz0 : i0.zero = some z) (hz1 : i0.size = size) (hz2 : i0.bytes = bytes) (hzs : z.cells.size = size) (hsz : 0 < size)
    (v : Value) (n : Nat) (xs : List Value) (hown : w.ownsRow B e size v n xs) (hv : v ≠ .slice none 0 0) (ad : Option Addr) (m c : Nat) (news : List Value) (hs : SrcAt w ad m size news) (h1 : ∀ u ∈ news, u.oneCell' = true)
    (h63 : n + m ≤ maxLen) (hbytes : (n + m) * bytes ≤ 140737488355328) (hB : B ≤ w.heap.size) :
    ∃ v' w', (Builtin.append_ #[t, t] ty #[v, .slice ad m c]).run Tryd.prog w = .ok v' w' ∧ w'.ownsRow B e size v' (n + m) (xs ++ news) ∧ w.grownBy w' v.ownBlock ∧ v' ≠ .slice none 0 0 ∧ (v'.ownBlock = v.ownBlock ∨ v'.ownBlock = some w.heap.size) := by
  obtain ⟨hl, hs⟩ := hs
  rcases hs with ⟨rfl, rfl⟩ | ⟨a, rfl, hc⟩
  · obtain rfl : news = [] := List.eq_nil_of_length_eq_zero (by simpa using hl)
    rcases hown.2 with ⟨rfl, _⟩ | ⟨g, cap, cur, rfl, hb, hg, hn, hcm, hcs, hx⟩
    · exact (hv rfl).elim
    · have h := run_append_room_src (P := Tryd.prog) (w := w) t t ty e i0 ht hi g 0 n cap (.slice none 0 c) 0 [] (Src.ofNil w ht c) (by omega) (by simp) (by simp)
      refine ⟨_, _, h, ?_, ⟨rfl, rfl, rfl, Nat.le_refl _, fun _ _ _ => rfl⟩, by simp, .inl rfl⟩
      rw [List.append_nil]
      exact hown
  · obtain ⟨v', w', h1, h2, h3, h4, h5⟩ := run_append_own_at (P := Tryd.prog) w B t ty e i0 z size bytes ht hi hz0 hz1 hz2 hzs hsz v n xs hown a m c news hl hc h1 h63 hbytes hB
    exact ⟨v', w', h1, h2, h3, fun e => hv (h4.1 e).1, h5⟩
theorem list_appG {ops : Array Oper} {rest : List Oper} {o : Oper} {a : Act} {w : World} {Q : Exit → Act → World → Prop} (hgd : o.guard = none) (s x : Operand) (t : TypeId)
    (ho : o.op = .call { callee := .builtin .append, args := #[s, x], argTypes := #[t, t] })
    (B : Nat) (e : TypeId) (i0 : TypeInfo) (z : Value) (size bytes : Nat) (ht : Tryd.prog.underlying t = some (.slice e)) (hi : Tryd.prog.info? e = some i0) (hz0 : i0.zero = some z) (hz1 : i0.size = size) (hz2 : i0.bytes = bytes) (hzs : z.cells.size = size) (hsz : 0 < size)
    (v : Value) (n : Nat) (xs : List Value) (hs : a.eval s = v) (hown : w.ownsRow B e size v n xs) (hv : v ≠ .slice none 0 0) (ad : Option Addr) (m c : Nat) (news : List Value) (hx : a.eval x = .slice ad m c) (hsr : SrcAt w ad m size news) (h1 : ∀ u ∈ news, u.oneCell' = true)
    (h63 : n + m ≤ maxLen) (hbytes : (n + m) * bytes ≤ 140737488355328) (hB : B ≤ w.heap.size)
    (h : ∀ v' w', w'.ownsRow B e size v' (n + m) (xs ++ news) → w.grownBy w' v.ownBlock → v' ≠ .slice none 0 0 → (v'.ownBlock = v.ownBlock ∨ v'.ownBlock = some w.heap.size) → wpList Tryd.prog ops Q rest (a.put o.dst v') w') :
    wpList Tryd.prog ops Q (o :: rest) a w :=
  wpList_plain hgd fun _ hK => by
    obtain ⟨v', w', r1, r2, r3, r4, r5⟩ := run_appG w B t o.type e i0 z size bytes ht hi hz0 hz1 hz2 hzs hsz v n xs hown hv ad m c news hsr h1 h63 hbytes hB
    unfold Oper.wp
    simp [execOp, ho, resolve, invoke, builtin, hs, hx, r1, Result.andThen]
    exact hK _ _ (h v' w' r2 r3 r4 r5)
theorem cellsAt {w : World} {g o : Nat} {cs : List Value} (h : w.rangeAt g o cs) : ∀ j u, cs[j]? = some u → w.cell? ((⟨g, o, none⟩ : Addr).add j) = some u := fun j u hu => by
  have := h j u hu
  rw [show (⟨g, o, none⟩ : Addr).add j = ⟨g, o + j, none⟩ by unfold Addr.add; split <;> simp_all]
  exact this
theorem src_terms {w : World} {ta : Option Addr} {ts : List (Int × Int)} (h : TermsIn w ta ts) : SrcAt w ta ts.length 2 (termsV ts) := by
  refine ⟨termsV_length ts, ?_⟩
  cases ta with
  | none =>
    rcases h with h | ⟨b, off, h, _⟩
    · exact .inl ⟨rfl, by rw [h]; rfl⟩
    · cases h
  | some a =>
    refine .inr ⟨a, rfl, ?_⟩
    rcases h with h | ⟨b, off, h, hr, _⟩
    · rw [h]; intro j u hu; simp [termsV] at hu
    · obtain rfl := Option.some.inj h
      exact cellsAt hr
theorem src_atoms {w : World} {a : Option Addr} {t : List AtomD} (h : t = [] ∨ ∃ b off, a = some ⟨b, off, none⟩ ∧ w.rangeAt b off (atomsL t) ∧ b < w.heap.size) : SrcAt w a t.length 12 (atomsL t) := by
  refine ⟨atomsL_length t, ?_⟩
  cases a with
  | none =>
    rcases h with h | ⟨b, off, h, _⟩
    · exact .inl ⟨rfl, by rw [h]; rfl⟩
    · cases h
  | some a =>
    refine .inr ⟨a, rfl, ?_⟩
    rcases h with h | ⟨b, off, h, hr, _⟩
    · rw [h]; intro j u hu; simp [atomsL] at hu
    · obtain rfl := Option.some.inj h
      exact cellsAt hr
theorem prefsL_length (p : List PrefD) : (prefsL p).length = p.length * 6 := by
  induction p with
  | nil => rfl
  | cons x r ih => simp [prefsL, prefL] at ih ⊢; omega
theorem src_prefs {w : World} {a : Option Addr} {p : List PrefD} (h : p = [] ∨ ∃ b off, a = some ⟨b, off, none⟩ ∧ w.rangeAt b off (prefsL p) ∧ b < w.heap.size) : SrcAt w a p.length 6 (prefsL p) := by
  refine ⟨prefsL_length p, ?_⟩
  cases a with
  | none =>
    rcases h with h | ⟨b, off, h, _⟩
    · exact .inl ⟨rfl, by rw [h]; rfl⟩
    · cases h
  | some a =>
    refine .inr ⟨a, rfl, ?_⟩
    rcases h with h | ⟨b, off, h, hr, _⟩
    · rw [h]; intro j u hu; simp [prefsL] at hu
    · obtain rfl := Option.some.inj h
      exact cellsAt hr
theorem atomL_one (x : AtomD) : ∀ u ∈ atomL x, u.oneCell' = true := by
  intro u hu
  simp [atomL] at hu
  rcases hu with rfl | rfl | rfl | rfl | rfl | rfl | rfl | rfl | rfl | rfl | rfl | rfl <;> rfl
theorem atomsL_one (t : List AtomD) : ∀ u ∈ atomsL t, u.oneCell' = true := by
  intro u hu
  simp only [atomsL, List.mem_flatMap] at hu
  obtain ⟨x, _, hx⟩ := hu
  exact atomL_one x u hx
theorem prefL_one (x : PrefD) : ∀ u ∈ prefL x, u.oneCell' = true := by
  intro u hu
  simp [prefL] at hu
  rcases hu with rfl | rfl | rfl | rfl | rfl | rfl <;> rfl
theorem prefsL_one (t : List PrefD) : ∀ u ∈ prefsL t, u.oneCell' = true := by
  intro u hu
  simp only [prefsL, List.mem_flatMap] at hu
  obtain ⟨x, _, hx⟩ := hu
  exact prefL_one x u hx
/-! The states. -/
abbrev RowT := AtomD × List (Int × Int)
def rowsD (l : List RowT) : List AtomD := l.map (·.1)
def rowsT (l : List RowT) (i : Nat) : List (Int × Int) := (l[i]?.getD default).2
theorem rowsD_length (l : List RowT) : (rowsD l).length = l.length := by simp [rowsD]
/-- A row's terms at W: they lie where they lay before the call, or in a row of the call's own. -/
def RowAt (w W : World) (x : AtomD) (ts : List (Int × Int)) : Prop :=
  x.tn = ts.length ∧ (TermsIn w x.ta ts ∨ W.ownsRow w.heap.size 37 2 (.slice x.ta x.tn x.tc) ts.length (termsV ts))
def RowFine (k : Nat) (x : AtomD) (ts : List (Int × Int)) : Prop := x.num ≤ 9223372036854775807 ∧ x.den ≤ 9223372036854775807 ∧ (∀ j, (codesA x j).size ≤ maxLen) ∧ ts.length ≤ k
theorem RowFine.mono {k k' : Nat} {x : AtomD} {ts : List (Int × Int)} (h : RowFine k x ts) (hk : k ≤ k') : RowFine k' x ts := ⟨h.1, h.2.1, h.2.2.1, Nat.le_trans h.2.2.2 hk⟩
/-- What a turn of a block does to a row's terms: nothing, if that block is no row of terms. -/
theorem RowAt.kept {w W W' : World} {x : AtomD} {ts : List (Int × Int)} {r : Option Nat} (h : RowAt w W x ts) (hg : W.grownBy W' r) (hr : ∀ b, r = some b → (∃ c ty fr, W.heap[b]? = some (.cells c ty fr) ∧ ty ≠ 37)) : RowAt w W' x ts := by
  refine ⟨h.1, h.2.imp id fun ho => ?_⟩
  cases r with
  | none => exact ho.kept hg (by cases (Value.slice x.ta x.tn x.tc).ownBlock <;> simp)
  | some b =>
    obtain ⟨c, ty, fr, h1, h2⟩ := hr b rfl
    exact ho.kept hg (own_ne ho h1 (fun e => h2 e.symm))
theorem own_terms {B n c : Nat} {w : World} {a : Option Addr} {ts : List (Int × Int)} (h : w.ownsRow B 37 2 (.slice a n c) ts.length (termsV ts)) : n = ts.length ∧ TermsIn w a ts := by
  rcases h.2 with ⟨h1, h2⟩ | ⟨g, cap, cur, h1, h2, h3, h4⟩
  · simp only [Value.slice.injEq] at h1
    exact ⟨by omega, .inl (List.eq_nil_of_length_eq_zero h2)⟩
  · simp only [Value.slice.injEq] at h1
    obtain ⟨rfl, rfl, rfl⟩ := h1
    refine ⟨rfl, .inr ⟨g, 0, rfl, ?_, (h.lt g rfl).2⟩⟩
    intro j v hj
    have := h.cells (g := g) rfl j v hj
    rw [addPlain] at this
    rw [Nat.zero_add]
    exact this
theorem RowAt.terms {w W : World} {x : AtomD} {ts : List (Int × Int)} (h : RowAt w W x ts) (hb : Below w.heap.size w W) : TermsIn W x.ta ts := by
  rcases h.2 with h1 | h1
  · exact terms_below h1 hb
  · exact (own_terms h1).2
/-- A table of the call's own, its rows with their terms. -/
structure SpIn (w W : World) (va vp : Value) (l : List RowT) (p : List PrefD) (k : Nat) : Prop where
  atoms : W.ownsRow w.heap.size 33 12 va l.length (atomsL (rowsD l))
  prefs : W.ownsRow w.heap.size 35 6 vp p.length (prefsL p)
  rows : ∀ y ∈ l, RowAt w W y.1 y.2 ∧ RowFine k y.1 y.2
  texts : ∀ x ∈ p, ∀ j, (codesP x j).size ≤ maxLen
  below : Below w.heap.size w W
theorem size_of_mem {p : List PrefD} (h : ∀ x ∈ p, ∀ j, (codesP x j).size ≤ maxLen) (i j : Nat) : (csP p i j).size ≤ maxLen := by
  rw [csP]
  by_cases hi : i < p.length
  · rw [List.getElem?_eq_getElem hi, Option.getD_some]
    exact h _ (List.getElem_mem hi) j
  · rw [List.getElem?_eq_none (by omega)]
    rcases j with _ | _ | _ | _ | _ | j <;> exact Nat.zero_le _
/-- A table at a world within bounds: at most n atoms, m prefixes, k terms each. -/
structure TabK (w : World) (a : Option Addr) (t : List AtomD) (T : Nat → List (Int × Int)) (a2 : Option Addr) (p : List PrefD) (n m k : Nat) : Prop where
  tab : TabIn w a t T a2 p
  atoms : t.length ≤ n
  prefs : p.length ≤ m
  terms : ∀ i, i < t.length → (T i).length ≤ k
theorem SpIn.tab {w W : World} {a : Option Addr} {c : Nat} {a2 : Option Addr} {c2 : Nat} {l : List RowT} {p : List PrefD} {n m k : Nat} (h : SpIn w W (.slice a l.length c) (.slice a2 p.length c2) l p k) (hn : l.length ≤ n) (hm : p.length ≤ m) (hk : k ≤ 10000) : TabK W a (rowsD l) (rowsT l) a2 p n m k := by
  have hrow : ∀ i (hi : i < (rowsD l).length), ∃ y ∈ l, (rowsD l)[i] = y.1 ∧ rowsT l i = y.2 := fun i hi => by
    rw [rowsD_length] at hi
    exact ⟨l[i], List.getElem_mem hi, by simp [rowsD], by rw [rowsT, List.getElem?_eq_getElem hi]; rfl⟩
  refine ⟨⟨?_, fun i hi => ?_, fun i hi => ?_, fun i j => ?_, ?_, size_of_mem h.texts⟩, by rw [rowsD_length]; exact hn, hm, fun i hi => ?_⟩
  · rcases h.atoms.2 with ⟨h1, h2⟩ | ⟨g, cap, cur, h1, h2, h3, h4⟩
    · left; rw [List.eq_nil_of_length_eq_zero h2]; rfl
    · simp only [Value.slice.injEq] at h1
      obtain ⟨rfl, -, rfl⟩ := h1
      refine .inr ⟨g, 0, rfl, ?_, (h.atoms.lt g rfl).2⟩
      exact rangeOf h.atoms 0 (l.length * 12) _ (by rw [List.drop_zero, List.take_of_length_le]; rw [atomsL_length, rowsD_length]; exact Nat.le_refl _)
  · obtain ⟨y, hy, e1, e2⟩ := hrow i hi
    obtain ⟨r1, r2⟩ := h.rows y hy
    rw [e1, e2]
    exact ⟨r1.1, r1.terms h.below, by have := r2.2.2.2; omega⟩
  · obtain ⟨y, hy, e1, e2⟩ := hrow i hi
    obtain ⟨r1, r2⟩ := h.rows y hy
    rw [e1]
    exact ⟨r2.1, r2.2.1⟩
  · rw [csA]
    by_cases hi : i < (rowsD l).length
    · obtain ⟨y, hy, e1, e2⟩ := hrow i hi
      rw [List.getElem?_eq_getElem hi, Option.getD_some, e1]
      exact (h.rows y hy).2.2.2.1 j
    · rw [List.getElem?_eq_none (by omega)]
      rcases j with _ | _ | _ | _ | _ | j <;> exact Nat.zero_le _
  · rcases h.prefs.2 with ⟨h1, h2⟩ | ⟨g, cap, cur, h1, h2, h3, h4⟩
    · exact .inl (List.eq_nil_of_length_eq_zero h2)
    · simp only [Value.slice.injEq] at h1
      obtain ⟨rfl, -, rfl⟩ := h1
      refine .inr ⟨g, 0, rfl, ?_, (h.prefs.lt g rfl).2⟩
      exact rangeOf h.prefs 0 (p.length * 6) _ (by rw [List.drop_zero, List.take_of_length_le]; rw [prefsL_length]; exact Nat.le_refl _)
  · obtain ⟨y, hy, e1, e2⟩ := hrow i hi
    rw [e2]
    exact (h.rows y hy).2.2.2.2
/-- The boxes of the call: the table's, the result's, the atom's; and the atom's own terms. -/
structure StD (w W : World) (bt b4 ba : Nat) (va vp : Value) (l : List RowT) (p : List PrefD) (k : Nat) (x : AtomD) (ts : List (Int × Int)) : Prop where
  sp : SpIn w W va vp l p k
  tb : W.heap[bt]? = some (.cells #[va, vp] 27 (0, 0))
  rb : W.heap[b4]? = some (.cells #[.slice none 0 0, .slice none 0 0] 27 (0, 0))
  xb : W.heap[ba]? = some (.cells (atomL x).toArray 33 (0, 0))
  ne : va.ownBlock ≠ some ba
  row : RowAt w W x ts
  fine : RowFine k x ts
  lo : w.heap.size ≤ bt ∧ w.heap.size ≤ b4 ∧ w.heap.size ≤ ba ∧ bt ≠ b4
theorem own_none {v : Value} {b : Nat} (h : v.ownBlock ≠ some b) : v.ownBlock = none ∨ v.ownBlock ≠ some b := .inr h
theorem SpIn.kept {w W W' : World} {va vp : Value} {l : List RowT} {p : List PrefD} {k b : Nat} (h : SpIn w W va vp l p k) (hg : W.grownBy W' (some b)) (h1 : va.ownBlock = none ∨ va.ownBlock ≠ some b) (h2 : vp.ownBlock = none ∨ vp.ownBlock ≠ some b) (hb : ∃ c ty fr, W.heap[b]? = some (.cells c ty fr) ∧ ty ≠ 37) (hw : w.heap.size ≤ b) : SpIn w W' va vp l p k :=
  ⟨h.atoms.kept hg h1, h.prefs.kept hg h2, fun y hy => ⟨(h.rows y hy).1.kept hg (fun b' e => by cases e; exact hb), (h.rows y hy).2⟩, h.texts, h.below.grown hg h.below.size (fun r e => by cases e; exact hw)⟩
theorem SpIn.mono {w W : World} {va vp : Value} {l : List RowT} {p : List PrefD} {k k' : Nat} (h : SpIn w W va vp l p k) (hk : k ≤ k') : SpIn w W va vp l p k' := ⟨h.atoms, h.prefs, fun y hy => ⟨(h.rows y hy).1, (h.rows y hy).2.mono hk⟩, h.texts, h.below⟩
/-- A cell of the atom's box is turned. -/
theorem StD.box {w W : World} {bt b4 ba : Nat} {va vp : Value} {l : List RowT} {p : List PrefD} {k : Nat} {x y : AtomD} {ts : List (Int × Int)} (h : StD w W bt b4 ba va vp l p k x ts) (j : Nat) (u : Value) (hy : atomL y = (atomL x).set j u) (hr : RowAt w W y ts) (hf : RowFine k y ts) :
    StD w (W.setCell ⟨ba, j, none⟩ u) bt b4 ba va vp l p k y ts := by
  have hg := grownBy_setCell W ⟨ba, j, none⟩ u
  have hx : ∃ c ty fr, W.heap[ba]? = some (.cells c ty fr) ∧ ty ≠ 37 := ⟨_, _, _, h.xb, by decide⟩
  have n1 : bt ≠ ba := fun e => by
    have h1 := h.tb; rw [e, h.xb] at h1; injection h1 with h1; injection h1 with _ h2; exact absurd h2 (by decide)
  have n2 : b4 ≠ ba := fun e => by
    have h1 := h.rb; rw [e, h.xb] at h1; injection h1 with h1; injection h1 with _ h2; exact absurd h2 (by decide)
  refine ⟨h.sp.kept hg (own_none h.ne) (own_ne h.sp.prefs h.xb (by decide)) hx h.lo.2.2.1, ?_, ?_, ?_, h.ne, hr.kept hg (fun b' e => by cases e; exact hx), hf, h.lo⟩
  · exact (Below.heap_setCell W ⟨ba, j, none⟩ u bt n1).trans h.tb
  · exact (Below.heap_setCell W ⟨ba, j, none⟩ u b4 n2).trans h.rb
  · rw [heap_setCell_same W ba j _ _ u h.xb, hy]
    simp
/-- The table's box gets another slice of atoms (rows of the call's own). -/
theorem StD.atoms {w W W' : World} {bt b4 ba : Nat} {va vp va' : Value} {l l' : List RowT} {p : List PrefD} {k k' : Nat} {x : AtomD} {ts : List (Int × Int)} (h : StD w W bt b4 ba va vp l p k x ts) (hg : W.grownBy W' va.ownBlock) (hn : va'.ownBlock = va.ownBlock ∨ va'.ownBlock = some W.heap.size)
    (ho : W'.ownsRow w.heap.size 33 12 va' l'.length (atomsL (rowsD l'))) (hl : ∀ y ∈ l', (RowAt w W y.1 y.2 ∧ RowFine k' y.1 y.2)) (hk : k ≤ k') :
    StD w (W'.setCell ⟨bt, 0, none⟩ va') bt b4 ba va' vp l' p k' x ts := by
  have lb : ∀ {b c ty fr}, W.heap[b]? = some (.cells c ty fr) → b < W.heap.size := fun h => (Array.getElem?_eq_some_iff.1 h).1
  have ln : ∀ r, va.ownBlock = some r → w.heap.size ≤ r := fun r e => (h.sp.atoms.lt r e).1
  have hnt : va.ownBlock ≠ some bt := by rcases own_ne h.sp.atoms h.tb (by decide) with e | e; (rw [e]; simp); exact e
  have hn4 : va.ownBlock ≠ some b4 := by rcases own_ne h.sp.atoms h.rb (by decide) with e | e; (rw [e]; simp); exact e
  have t1 : W'.heap[bt]? = some (.cells #[va, vp] 27 (0, 0)) := (hg.block bt (lb h.tb) (fun e => hnt e.symm)).trans h.tb
  have r1 : W'.heap[b4]? = some (.cells #[.slice none 0 0, .slice none 0 0] 27 (0, 0)) := (hg.block b4 (lb h.rb) (fun e => hn4 e.symm)).trans h.rb
  have x1 : W'.heap[ba]? = some (.cells (atomL x).toArray 33 (0, 0)) := (hg.block ba (lb h.xb) (fun e => h.ne e.symm)).trans h.xb
  have hrow : ∀ {y : AtomD} {us : List (Int × Int)}, RowAt w W y us → RowAt w W' y us := fun hr => by
    refine ⟨hr.1, hr.2.imp id fun ho => ho.kept hg (own_own ho h.sp.atoms (by decide))⟩
  have p1 : W'.ownsRow w.heap.size 35 6 vp p.length (prefsL p) := h.sp.prefs.kept hg (own_own h.sp.prefs h.sp.atoms (by decide))
  have hg2 := grownBy_setCell W' ⟨bt, 0, none⟩ va'
  have hx : ∃ c ty fr, W'.heap[bt]? = some (.cells c ty fr) ∧ ty ≠ 37 := ⟨_, _, _, t1, by decide⟩
  have n1 : bt ≠ ba := fun e => by
    have h1 := h.tb; rw [e, h.xb] at h1; injection h1 with h1; injection h1 with _ h2; exact absurd h2 (by decide)
  have hb' : Below w.heap.size w W' := h.sp.below.grown hg h.sp.below.size ln
  refine ⟨⟨ho.kept hg2 (own_ne ho t1 (by decide)), p1.kept hg2 (own_ne p1 t1 (by decide)), fun y hy => ⟨(hrow (hl y hy).1).kept hg2 (fun b' e => by cases e; exact hx), (hl y hy).2⟩, h.sp.texts, hb'.setCell (p := ⟨bt, 0, none⟩) h.lo.1 _⟩, ?_, ?_, ?_, ?_, (hrow h.row).kept hg2 (fun b' e => by cases e; exact hx), h.fine.mono hk, h.lo⟩
  · rw [heap_setCell_same W' bt 0 _ _ va' t1]; rfl
  · exact (Below.heap_setCell W' ⟨bt, 0, none⟩ va' b4 h.lo.2.2.2.symm).trans r1
  · exact (Below.heap_setCell W' ⟨bt, 0, none⟩ va' ba n1.symm).trans x1
  · rcases hn with e | e
    · rw [e]; exact h.ne
    · rw [e]; intro e2; have := lb h.xb; have := Option.some.inj e2; omega
theorem StD.mono {w W : World} {bt b4 ba : Nat} {va vp : Value} {l : List RowT} {p : List PrefD} {k k' : Nat} {x : AtomD} {ts : List (Int × Int)} (h : StD w W bt b4 ba va vp l p k x ts) (hk : k ≤ k') : StD w W bt b4 ba va vp l p k' x ts :=
  ⟨h.sp.mono hk, h.tb, h.rb, h.xb, h.ne, h.row, h.fine.mono hk, h.lo⟩
/-- A cell of a prefix is turned. -/
theorem prefsL_set : ∀ (t : List PrefD) (i j : Nat) (hi : i < t.length) (u : Value) (x : PrefD), j < 6 → prefL x = (prefL t[i]).set j u → (prefsL t).set (i * 6 + j) u = prefsL (t.set i x)
  | [], i, j, hi, _, _, _, _ => by simp at hi
  | y :: t, 0, j, _, u, x, hj, h => by
    have e : prefsL (y :: t) = prefL y ++ prefsL t := rfl
    have e2 : prefsL ((y :: t).set 0 x) = prefL x ++ prefsL t := rfl
    rw [e, e2, h, Nat.zero_mul, Nat.zero_add, List.set_append_left _ _ (by simpa [prefL] using hj)]
    rfl
  | y :: t, i + 1, j, hi, u, x, hj, h => by
    have e : prefsL (y :: t) = prefL y ++ prefsL t := rfl
    have e2 : prefsL ((y :: t).set (i + 1) x) = prefL y ++ prefsL (t.set i x) := rfl
    have hl : (prefL y).length = 6 := rfl
    rw [e, e2, List.set_append_right _ _ (by omega), ← prefsL_set t i j (by simpa using hi) u x hj h]
    congr 2
    omega
theorem StD.pref {w W : World} {bt b4 ba g cap : Nat} {va : Value} {l : List RowT} {p : List PrefD} {k q j : Nat} {x : AtomD} {ts : List (Int × Int)} (h : StD w W bt b4 ba va (.slice (some ⟨g, 0, none⟩) p.length cap) l p k x ts) (hq : q < p.length) (hj : j < 6) (u : Value) (z : PrefD) (hz : prefL z = (prefL p[q]).set j u) (hs : ∀ j, (codesP z j).size ≤ maxLen) :
    StD w (W.setCell ⟨g, q * 6 + j, none⟩ u) bt b4 ba va (.slice (some ⟨g, 0, none⟩) (p.set q z).length cap) l (p.set q z) k x ts := by
  obtain ⟨s1, hg⟩ := h.sp.prefs.stored (q * 6 + j) u
  rw [prefsL_set p q j hq u z hj hz] at s1
  have lb : ∀ {b c ty fr}, W.heap[b]? = some (.cells c ty fr) → b < W.heap.size := fun h => (Array.getElem?_eq_some_iff.1 h).1
  have nn : ∀ {b c ty fr}, W.heap[b]? = some (.cells c ty fr) → ty ≠ 35 → b ≠ g := fun {b c ty fr} hb ht e => by
    rcases own_ne h.sp.prefs hb (fun e => ht e.symm) with e2 | e2
    · simp [Value.ownBlock] at e2
    · exact e2 (by rw [e]; rfl)
  have hrow : ∀ {y : AtomD} {us : List (Int × Int)}, RowAt w W y us → RowAt w (W.setCell ⟨g, q * 6 + j, none⟩ u) y us := fun hr => by
    refine ⟨hr.1, hr.2.imp id fun ho => ho.kept hg (own_own ho h.sp.prefs (by decide))⟩
  refine ⟨⟨h.sp.atoms.kept hg (own_own h.sp.atoms h.sp.prefs (by decide)), by rw [List.length_set]; exact s1, fun y hy => ⟨hrow (h.sp.rows y hy).1, (h.sp.rows y hy).2⟩, fun y hy => ?_, h.sp.below.setCell (p := ⟨g, q * 6 + j, none⟩) (h.sp.prefs.lt g rfl).1 _⟩, ?_, ?_, ?_, h.ne, hrow h.row, h.fine, h.lo⟩
  · rcases List.mem_or_eq_of_mem_set hy with hy | rfl
    · exact h.sp.texts y hy
    · exact hs
  · rw [Below.heap_setCell W ⟨g, q * 6 + j, none⟩ u bt (nn h.tb (by decide)), h.tb, List.length_set]
  · exact (Below.heap_setCell W ⟨g, q * 6 + j, none⟩ u b4 (nn h.rb (by decide))).trans h.rb
  · exact (Below.heap_setCell W ⟨g, q * 6 + j, none⟩ u ba (nn h.xb (by decide))).trans h.xb
/-- The atom is put back into its place. -/
theorem own_setAtom {w : World} {B g cap i : Nat} {t : List AtomD} (h : w.ownsRow B 33 12 (.slice (some ⟨g, 0, none⟩) t.length cap) t.length (atomsL t)) (hi : i < t.length) (x : AtomD) :
    (w.setCells g (i * 12) (atomL x)).ownsRow B 33 12 (.slice (some ⟨g, 0, none⟩) t.length cap) t.length (atomsL (t.set i x)) ∧ w.grownBy (w.setCells g (i * 12) (atomL x)) (some g) := by
  have many : ∀ (vs : List Value) (o : Nat) (W : World) (xs : List Value), W.ownsRow B 33 12 (.slice (some ⟨g, 0, none⟩) t.length cap) t.length xs →
      ∃ ys, (W.setCells g o vs).ownsRow B 33 12 (.slice (some ⟨g, 0, none⟩) t.length cap) t.length ys ∧ W.grownBy (W.setCells g o vs) (some g) ∧ ys.length = xs.length ∧ (∀ q, q < o ∨ o + vs.length ≤ q → ys[q]? = xs[q]?) ∧ (∀ q, q < vs.length → o + q < xs.length → ys[o + q]? = vs[q]?) := by
    intro vs
    induction vs with
    | nil => intro o W xs h; exact ⟨xs, h, ⟨rfl, rfl, rfl, Nat.le_refl _, fun _ _ _ => rfl⟩, rfl, fun _ _ => rfl, fun q hq => by simp at hq⟩
    | cons v r ih =>
      intro o W xs h
      obtain ⟨s1, s2⟩ := h.stored o v
      obtain ⟨ys, h1, h2, h3, h4, h5⟩ := ih (o + 1) _ _ s1
      refine ⟨ys, h1, grownTrans s2 h2, by simpa using h3, fun q hq => ?_, fun q hq hl => ?_⟩
      · rw [h4 q (by simp at hq; omega), List.getElem?_set_ne (by simp at hq; omega)]
      · cases q with
        | zero =>
          rw [h4 (o + 0) (by omega)]
          simp at hl ⊢
          rw [List.getElem?_set_self hl]
        | succ q =>
          have := h5 q (by simpa using hq) (by simpa using (by omega : o + 1 + q < xs.length))
          rw [show o + (q + 1) = o + 1 + q by omega, this]
          simp
  obtain ⟨ys, h1, h2, h3, h4, h5⟩ := many (atomL x) (i * 12) w (atomsL t) h
  have hy : ys = atomsL (t.set i x) := by
    apply List.ext_getElem?
    intro q
    have hl := atomsL_length t
    have hlx : (atomL x).length = 12 := rfl
    have get : ∀ (s : List AtomD) (a b : Nat) (ha : a < s.length), b < 12 → (atomsL s)[a * 12 + b]? = (atomL s[a])[b]? := by
      intro s a b ha hb
      have := flat_take atomL 12 s (fun _ _ => rfl) a ha
      rw [← this, List.getElem?_take, if_pos hb, List.getElem?_drop]
      rfl
    by_cases hq : q < t.length * 12
    · have e : q = q / 12 * 12 + q % 12 := by omega
      have hm : q % 12 < 12 := Nat.mod_lt _ (by omega)
      have hd : q / 12 < t.length := by omega
      have g1 := get (t.set i x) (q / 12) (q % 12) (by simpa using hd) hm
      rw [← e] at g1
      rw [g1, List.getElem_set]
      by_cases hi2 : i = q / 12
      · rw [if_pos hi2]
        have := h5 (q % 12) hm (by omega)
        rw [hi2, ← e] at this
        exact this
      · rw [if_neg hi2]
        have g2 := get t (q / 12) (q % 12) hd hm
        rw [← e] at g2
        rw [h4 q (by omega), g2]
    · rw [List.getElem?_eq_none (by omega), List.getElem?_eq_none (by rw [atomsL_length]; simp; omega)]
  rw [hy] at h1
  exact ⟨h1, h2⟩
/-- The atom's terms grow, and its box is told. -/
theorem StD.terms {w W W' : World} {bt b4 ba : Nat} {va vp : Value} {l : List RowT} {p : List PrefD} {k k' : Nat} {x : AtomD} {ts ts' : List (Int × Int)} (h : StD w W bt b4 ba va vp l p k x ts) (hold : ∀ y ∈ l, TermsIn w y.1.ta y.2) (ho : W.ownsRow w.heap.size 37 2 (.slice x.ta x.tn x.tc) ts.length (termsV ts))
    (hg : W.grownBy W' (Value.slice x.ta x.tn x.tc).ownBlock) (a : Option Addr) (n c : Nat) (ho' : W'.ownsRow w.heap.size 37 2 (.slice a n c) ts'.length (termsV ts')) (hl : ts'.length ≤ k') (hk : k ≤ k') :
    StD w (W'.setCell ⟨ba, 11, none⟩ (.slice a n c)) bt b4 ba va vp l p k' { x with ta := a, tn := n, tc := c } ts' := by
  have lb : ∀ {b c ty fr}, W.heap[b]? = some (.cells c ty fr) → b < W.heap.size := fun h => (Array.getElem?_eq_some_iff.1 h).1
  have nn : ∀ {b : Nat} {c : Array Value} {ty : TypeId} {fr : Nat × Nat}, W.heap[b]? = some (Obj.cells c ty fr) → ty ≠ 37 → W'.heap[b]? = some (Obj.cells c ty fr) := fun {b c ty fr} hb ht => by
    refine (hg.block b (lb hb) ?_).trans hb
    rcases own_ne ho hb (fun e => ht e.symm) with e | e
    · rw [e]; simp
    · exact fun e2 => e e2.symm
  have hsp : SpIn w W' va vp l p k' := ⟨h.sp.atoms.kept hg (own_own h.sp.atoms ho (by decide)), h.sp.prefs.kept hg (own_own h.sp.prefs ho (by decide)), fun y hy => ⟨⟨(h.sp.rows y hy).1.1, .inl (hold y hy)⟩, (h.sp.rows y hy).2.mono hk⟩, h.sp.texts, h.sp.below.grown hg h.sp.below.size (fun r e => (ho.lt r e).1)⟩
  have t1 := nn h.tb (by decide)
  have r1 := nn h.rb (by decide)
  have x1 := nn h.xb (by decide)
  have hg2 := grownBy_setCell W' ⟨ba, 11, none⟩ (.slice a n c)
  have hx : ∃ c ty fr, W'.heap[ba]? = some (.cells c ty fr) ∧ ty ≠ 37 := ⟨_, _, _, x1, by decide⟩
  have n1 : bt ≠ ba := fun e => by
    have h1 := t1; rw [e, x1] at h1; injection h1 with h1; injection h1 with _ h2; exact absurd h2 (by decide)
  have n2 : b4 ≠ ba := fun e => by
    have h1 := r1; rw [e, x1] at h1; injection h1 with h1; injection h1 with _ h2; exact absurd h2 (by decide)
  have hn := (own_terms ho').1
  refine ⟨hsp.kept hg2 (own_none h.ne) (own_ne hsp.prefs x1 (by decide)) hx h.lo.2.2.1, ?_, ?_, ?_, h.ne, ⟨hn, .inr (ho'.kept hg2 (own_ne ho' x1 (by decide)))⟩, ⟨h.fine.1, h.fine.2.1, h.fine.2.2.1, hl⟩, h.lo⟩
  · exact (Below.heap_setCell W' ⟨ba, 11, none⟩ _ bt n1).trans t1
  · exact (Below.heap_setCell W' ⟨ba, 11, none⟩ _ b4 n2).trans r1
  · rw [heap_setCell_same W' ba 11 _ _ _ x1]
    rfl
theorem RowAt.under {w W W' : World} {x : AtomD} {ts : List (Int × Int)} (h : RowAt w W x ts) (hb : Below W.heap.size W W') : RowAt w W' x ts := ⟨h.1, h.2.imp id fun ho => ownBelow ho hb⟩
theorem SpIn.under {w W W' : World} {va vp : Value} {l : List RowT} {p : List PrefD} {k : Nat} (h : SpIn w W va vp l p k) (hb : Below W.heap.size W W') : SpIn w W' va vp l p k :=
  ⟨ownBelow h.atoms hb, ownBelow h.prefs hb, fun y hy => ⟨(h.rows y hy).1.under hb, (h.rows y hy).2⟩, h.texts, h.below.trans (hb.mono h.below.size)⟩
theorem StD.under {w W W' : World} {bt b4 ba : Nat} {va vp : Value} {l : List RowT} {p : List PrefD} {k : Nat} {x : AtomD} {ts : List (Int × Int)} (h : StD w W bt b4 ba va vp l p k x ts) (hb : Below W.heap.size W W') : StD w W' bt b4 ba va vp l p k x ts :=
  ⟨h.sp.under hb, (hb.block _ (Array.getElem?_eq_some_iff.1 h.tb).1).trans h.tb, (hb.block _ (Array.getElem?_eq_some_iff.1 h.rb).1).trans h.rb, (hb.block _ (Array.getElem?_eq_some_iff.1 h.xb).1).trans h.xb, h.ne, h.row.under hb, h.fine, h.lo⟩
/-- One of the atom's codes is another one. -/
def setCode (x : AtomD) : Nat → ByteArray → AtomD
  | 0, s => { x with c0 := s }
  | 1, s => { x with c1 := s }
  | 2, s => { x with c2 := s }
  | 3, s => { x with c3 := s }
  | _, s => { x with c4 := s }
theorem setCode_L (x : AtomD) (c : Nat) (hc : c < 5) (s : ByteArray) : atomL (setCode x c s) = (atomL x).set c (.string s) := by
  rcases c with _ | _ | _ | _ | _ | c <;> first | rfl | omega
theorem setCode_row {w W : World} {x : AtomD} {ts : List (Int × Int)} (c : Nat) (s : ByteArray) (h : RowAt w W x ts) : RowAt w W (setCode x c s) ts := by
  rcases c with _ | _ | _ | _ | c <;> exact h
theorem setCode_fine {k : Nat} {x : AtomD} {ts : List (Int × Int)} (c : Nat) {s : ByteArray} (hs : s.size ≤ maxLen) (h : RowFine k x ts) : RowFine k (setCode x c s) ts := by
  have hj : ∀ j, (codesA (setCode x c s) j).size ≤ maxLen := fun j => by
    have h0 := h.2.2.1 0
    have h1 := h.2.2.1 1
    have h2 := h.2.2.1 2
    have h3 := h.2.2.1 3
    have h4 := h.2.2.1 4
    have h5 := h.2.2.1 (j + 5)
    rcases c with _ | _ | _ | _ | c <;> rcases j with _ | _ | _ | _ | _ | j <;> first | exact hs | exact h0 | exact h1 | exact h2 | exact h3 | exact h4 | exact Nat.zero_le _
  rcases c with _ | _ | _ | _ | c <;> exact ⟨h.1, h.2.1, hj, h.2.2.2⟩
def setPre (x : PrefD) : Nat → ByteArray → PrefD
  | 0, s => { x with c0 := s }
  | 1, s => { x with c1 := s }
  | 2, s => { x with c2 := s }
  | 3, s => { x with c3 := s }
  | _, s => { x with c4 := s }
theorem setPre_L (x : PrefD) (c : Nat) (hc : c < 5) (s : ByteArray) : prefL (setPre x c s) = (prefL x).set c (.string s) := by
  rcases c with _ | _ | _ | _ | _ | c <;> first | rfl | omega
theorem setPre_fine {x : PrefD} (c : Nat) {s : ByteArray} (hs : s.size ≤ maxLen) (h : ∀ j, (codesP x j).size ≤ maxLen) (j : Nat) : (codesP (setPre x c s) j).size ≤ maxLen := by
  have h0 := h 0
  have h1 := h 1
  have h2 := h 2
  have h3 := h 3
  have h4 := h 4
  rcases c with _ | _ | _ | _ | c <;> rcases j with _ | _ | _ | _ | _ | j <;> first | exact hs | exact h0 | exact h1 | exact h2 | exact h3 | exact h4 | exact Nat.zero_le _
/-- A store of a whole struct; the walk stops behind it. -/
theorem list_store_stop {P : Program} {ops : Array Oper} {rest : List Oper} {op : Oper} {a : Act} {w : World} {Q : Exit → Act → World → Prop} (hgd : op.guard = none) (ty : TypeId) (x y : Operand) (ho : op.op = .store ty x y)
    (b o : Nat) (cells : Array Value) (hx : a.eval x = .pointer (some ⟨b, o, none⟩)) (hy : a.eval y = .agg cells)
    (ht : w.there b o cells.size) (hi : (P.info? ty).map (·.size) = some cells.size) (h1 : cells.all (·.oneCell') = true)
    (h : ∀ w', Hid (w' = w.setCells b o cells.toList) → wpList P ops Q rest (a.put op.dst undef) w') : wpList P ops Q (op :: rest) a w :=
  wpList_store_mid hgd ty x y ho b o cells hx hy ht hi h1 (h _ (Lib.hid rfl))
theorem StD.back {w W : World} {bt b4 ba g cap i : Nat} {vp : Value} {l : List RowT} {p : List PrefD} {k : Nat} {x : AtomD} {ts : List (Int × Int)} (h : StD w W bt b4 ba (.slice (some ⟨g, 0, none⟩) l.length cap) vp l p k x ts) (hi : i < l.length) (W5 : World) (hW : W5 = W.setCells g (i * 12) (atomL x)) :
    SpIn w W5 (.slice (some ⟨g, 0, none⟩) (l.set i (x, ts)).length cap) vp (l.set i (x, ts)) p k ∧ W5.heap[bt]? = some (.cells #[.slice (some ⟨g, 0, none⟩) l.length cap, vp] 27 (0, 0)) ∧ W5.heap[b4]? = some (.cells #[.slice none 0 0, .slice none 0 0] 27 (0, 0)) ∧ W.heap.size ≤ W5.heap.size := by
  have hl := rowsD_length l
  have ha := h.sp.atoms
  rw [← hl] at ha
  obtain ⟨o1, hg⟩ := own_setAtom ha (by rw [hl]; exact hi) x
  rw [← hW] at o1 hg
  rw [hl] at o1
  have es : rowsD (l.set i (x, ts)) = (rowsD l).set i x := by simp [rowsD, List.map_set]
  have nn : ∀ {b : Nat} {c : Array Value} {ty : TypeId} {fr : Nat × Nat}, W.heap[b]? = some (Obj.cells c ty fr) → ty ≠ 33 → W5.heap[b]? = some (Obj.cells c ty fr) := fun {b c ty fr} hb ht => by
    refine (hg.block b (Array.getElem?_eq_some_iff.1 hb).1 (fun e => ?_)).trans hb
    rcases own_ne h.sp.atoms hb (fun e => ht e.symm) with e2 | e2
    · simp [Value.ownBlock] at e2
    · exact e2 (by simpa [Value.ownBlock] using e.symm)
  have hrow : ∀ {y : AtomD} {us : List (Int × Int)}, RowAt w W y us → RowAt w W5 y us := fun hr => ⟨hr.1, hr.2.imp id fun ho => ho.kept hg (own_own ho h.sp.atoms (by decide))⟩
  refine ⟨⟨by rw [List.length_set, es]; exact o1, h.sp.prefs.kept hg (own_own h.sp.prefs h.sp.atoms (by decide)), fun y hy => ?_, h.sp.texts, h.sp.below.grown hg h.sp.below.size (fun r e => by cases e; exact (h.sp.atoms.lt g rfl).1)⟩, nn h.tb (by decide), nn h.rb (by decide), hg.size⟩
  rcases List.mem_or_eq_of_mem_set hy with hy | rfl
  · exact ⟨hrow (h.sp.rows y hy).1, (h.sp.rows y hy).2⟩
  · exact ⟨hrow h.row, h.fine⟩
theorem step_ownA {P : Program} {ops : Array Oper} {o : Oper} {a : Act} {w : World} {K : Act → World → Prop} {Q : Exit → Act → World → Prop} {E : Prop} (hw : Region.wanted o (yielded ops a.tmps) = true) (s x : Operand) (t : TypeId)
    (ho : o.op = .call { callee := .builtin .append, args := #[s, x], argTypes := #[t, t] })
    (base : Nat) (e : TypeId) (i : TypeInfo) (z : Value) (size bytes : Nat) (ht : P.underlying t = some (.slice e)) (hi : P.info? e = some i) (hz : i.zero = some z)
    (hsize : i.size = size) (hby : i.bytes = bytes) (hzs : z.cells.size = size) (hsz : 0 < size)
    (v : Value) (n : Nat) (xs : List Value) (hs : a.eval s = v) (hown : w.ownsRow base e size v n xs)
    (ad : Addr) (m c : Nat) (news : List Value) (hx : a.eval x = .slice (some ad) m c) (hl : news.length = m * size) (hnews : ∀ j u, news[j]? = some u → w.cell? (ad.add j) = some u) (h1 : ∀ u ∈ news, u.oneCell' = true)
    (h63 : n + m ≤ maxLen) (hbytes : (n + m) * bytes ≤ 140737488355328) (hbase : base ≤ w.heap.size)
    (h : ∀ v' w', w'.ownsRow base e size v' (n + m) (xs ++ news) → w.grownBy w' v.ownBlock → (v' = .slice none 0 0 ↔ v = .slice none 0 0 ∧ m = 0) → K (a.put o.dst v') w') :
    if Region.wanted o (yielded ops a.tmps) = true then Oper.wp P o a w K Q else E := by
  rw [if_pos hw]
  exact wp_append_own w s x t ho base e i z size bytes ht hi hz hsize hby hzs hsz v n xs hs hown ad m c news hx hl hnews h1 h63 hbytes hbase h
theorem own_partA {w : World} {B e z g n cap i : Nat} {xs : List Value} (h : w.ownsRow B e z (.slice (some ⟨g, 0, none⟩) n cap) n xs) (hi : i ≤ n) : w.drew.ownsRow B e z (.slice (some ⟨g, 0, none⟩) i cap) i (xs.take (i * z)) := by
  have hl := h.1
  have hm : i * z ≤ n * z := Nat.mul_le_mul_right z hi
  refine ⟨by rw [List.length_take, hl]; omega, ?_⟩
  rcases h.2 with ⟨h', _⟩ | ⟨g', cap', cur, h', hb, hg, hnc, hcm, hcs, htake⟩
  · simp at h'
  · simp only [Value.slice.injEq, Option.some.injEq, Addr.mk.injEq, and_true, true_and] at h'
    obtain ⟨rfl, rfl⟩ := h'
    refine .inr ⟨g, cap, cur, rfl, hb, hg, by omega, hcm, hcs, ?_⟩
    rw [← htake, List.take_take, Nat.min_eq_left hm]
theorem atomsL_append (a b : List AtomD) : atomsL (a ++ b) = atomsL a ++ atomsL b := by simp [atomsL]
theorem atomsL_take (t : List AtomD) (i : Nat) : atomsL (t.take i) = (atomsL t).take (i * 12) := by
  by_cases hi : i ≤ t.length
  · have e : atomsL t = atomsL (t.take i) ++ atomsL (t.drop i) := by rw [← atomsL_append, List.take_append_drop]
    rw [e, List.take_left' (by rw [atomsL_length, List.length_take, Nat.min_eq_left hi])]
  · rw [List.take_of_length_le (by omega), List.take_of_length_le (by rw [atomsL_length]; omega)]
theorem atomsL_drop (t : List AtomD) (i : Nat) : atomsL (t.drop i) = (atomsL t).drop (i * 12) := by
  by_cases hi : i ≤ t.length
  · have e : atomsL t = atomsL (t.take i) ++ atomsL (t.drop i) := by rw [← atomsL_append, List.take_append_drop]
    rw [e, List.drop_left' (by rw [atomsL_length, List.length_take, Nat.min_eq_left hi])]
  · rw [List.drop_eq_nil_of_le (by omega), List.drop_eq_nil_of_le (by rw [atomsL_length]; omega)]
    rfl
theorem own_tailA {w : World} {B g n cap : Nat} {t : List AtomD} (h : w.ownsRow B 33 12 (.slice (some ⟨g, 0, none⟩) n cap) n (atomsL t)) (i : Nat) : ∀ j u, (atomsL (t.drop i))[j]? = some u → w.drew.cell? ((⟨g, i * 12, none⟩ : Addr).add j) = some u := by
  intro j u hu
  rw [World.cell?_drew, Addr.add_mid]
  rw [atomsL_drop, List.getElem?_drop] at hu
  have := h.cells (g := g) rfl (i * 12 + j) u hu
  rw [addPlain] at this
  exact this
theorem own_cap {w : World} {B e z g n cap : Nat} {xs : List Value} (h : w.ownsRow B e z (.slice (some ⟨g, 0, none⟩) n cap) n xs) : n ≤ cap := by
  rcases h.2 with ⟨h', _⟩ | ⟨g', cap', cur, h', hb, hg, hnc, _⟩
  · simp at h'
  · simp only [Value.slice.injEq, Option.some.injEq, Addr.mk.injEq, and_true, true_and] at h'
    omega
/-- The table's box gets the slice of atoms without one row; the result's box is told. -/
theorem StD.cut {w W W' : World} {bt b4 ba g cap i m : Nat} {vp v' : Value} {l : List RowT} {p : List PrefD} {k : Nat} {x : AtomD} {ts : List (Int × Int)} (h : StD w W bt b4 ba (.slice (some ⟨g, 0, none⟩) l.length cap) vp l p k x ts) (hi : i < l.length) (hm : m = l.length - (i + 1)) (hg : W.drew.grownBy W' (some g))
    (ho : W'.ownsRow w.heap.size 33 12 v' (i + m) ((atomsL (rowsD l)).take (i * 12) ++ atomsL ((rowsD l).drop (i + 1)))) :
    SpIn w W' v' vp (l.take i ++ l.drop (i + 1)) p k ∧ W'.heap[bt]? = some (.cells #[.slice (some ⟨g, 0, none⟩) l.length cap, vp] 27 (0, 0)) ∧ W'.heap[b4]? = some (.cells #[.slice none 0 0, .slice none 0 0] 27 (0, 0)) := by
  subst hm
  have hd : W.drew.heap = W.heap := rfl
  have nn : ∀ {b : Nat} {c : Array Value} {ty : TypeId} {fr : Nat × Nat}, W.heap[b]? = some (Obj.cells c ty fr) → ty ≠ 33 → W'.heap[b]? = some (Obj.cells c ty fr) := fun {b c ty fr} hb ht => by
    refine (hg.block b (Array.getElem?_eq_some_iff.1 hb).1 (fun e => ?_)).trans hb
    rcases own_ne h.sp.atoms hb (fun e => ht e.symm) with e2 | e2
    · simp [Value.ownBlock] at e2
    · exact e2 (by simpa [Value.ownBlock] using e.symm)
  have bd : Below W.heap.size W W.drew := (Below.refl _ _).drew
  have hrow : ∀ {y : AtomD} {us : List (Int × Int)}, RowAt w W y us → RowAt w W' y us := fun hr => ⟨hr.1, hr.2.imp id fun ho => (ownBelow ho bd).kept hg (own_own ho h.sp.atoms (by decide))⟩
  refine ⟨⟨?_, (ownBelow h.sp.prefs bd).kept hg (own_own h.sp.prefs h.sp.atoms (by decide)), fun y hy => ?_, h.sp.texts, (h.sp.below.trans (bd.mono h.sp.below.size)).grown hg (by exact h.sp.below.size) (fun r e => by cases e; exact (h.sp.atoms.lt g rfl).1)⟩, nn h.tb (by decide), nn h.rb (by decide)⟩
  · have e : rowsD (l.take i ++ l.drop (i + 1)) = (rowsD l).take i ++ (rowsD l).drop (i + 1) := by simp [rowsD, List.map_take, List.map_drop]
    rw [e, atomsL_append, atomsL_take, List.length_append, List.length_take, List.length_drop, Nat.min_eq_left (by omega)]
    exact ho
  · have : y ∈ l := by
      rcases List.mem_append.1 hy with hy | hy
      · exact List.mem_of_mem_take hy
      · exact List.mem_of_mem_drop hy
    exact ⟨hrow (h.sp.rows y this).1, (h.sp.rows y this).2⟩
end Go.Proofs.YtiinppicdhidhaaDoor
