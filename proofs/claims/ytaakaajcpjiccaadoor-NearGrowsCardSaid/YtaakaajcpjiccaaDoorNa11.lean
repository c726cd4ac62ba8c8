/-
  The table: the contract of 'atoms.Table'.
-/
import Derived.Deep.RegionHeld3
import Derived.Deep.MidRow
import Derived.Lib.Hide
import Derived.Deep.DeepCutAuto
import Derived.Test.YtaakaajcpjiccaaDoorNa09
import Derived.Test.YtaakaajcpjiccaaDoorNa10
set_option linter.unusedVariables false
set_option linter.unusedSimpArgs false
namespace Go.Proofs.YtaakaajcpjiccaaDoor
open Go.RowKit
open Go.Proofs

def preV (p : PreD) : List Value := p.codes.map strV ++ [intV p.ten]
def presV (l : List PreD) : List Value := l.flatMap preV
def rowAt (i : Nat) : RowD := tabRows.getD i default
def baseAt (i : Nat) : Int := if i < 7 then i else -1
def atomV (s : Value) (i : Nat) : List Value := (rowAt i).codes.map strV ++ [.bool (rowAt i).metric, intV (rowAt i).tag, intV (baseAt i), intV (rowAt i).num, intV (rowAt i).den, intV (rowAt i).ten, s]
def atomsV (n : Nat) (ss : Nat → Value) : List Value := (List.range n).flatMap fun i => atomV (ss i) i
def Laid (w : World) : Prop := ∀ j u, (presV tabPres)[j]? = some u → w.cell? ⟨0, j, none⟩ = some u
structure TermsAt (B : Nat) (w : World) (s : Value) (ts : List (Int × Int)) : Prop where
  own : w.ownsRow B 98 2 s ts.length (termsV ts)
  nil : ts = [] → s = .slice none 0 0
structure TableAt (B : Nat) (w : World) (va vp : Value) (ss : Nat → Value) : Prop where
  atoms : w.ownsRow B 124 12 va 48 (atomsV 48 ss)
  pres : w.ownsRow B 145 6 vp 20 (presV tabPres)
  terms : ∀ i, i < 48 → TermsAt B w (ss i) (rowAt i).terms
theorem addPlain (g j : Nat) : (⟨g, 0, none⟩ : Addr).add j = ⟨g, j, none⟩ := by unfold Addr.add; split <;> simp_all

/-! Plain lemmas on the rows' cells. -/
def slAt (B : Nat) : Nat → List RowD → Nat → Value
  | _, [], _ => .slice none 0 0
  | k, r :: _, 0 => termSl B k r.terms
  | k, r :: rs, i + 1 => slAt B (nextK k r.terms) rs i
theorem rows_codes : ∀ r ∈ tabRows, r.codes.length = 5 := by decide
theorem rowV_length {r : RowD} (h : r.codes.length = 5) (s : Value) : (rowV s r).length = 11 := by simp [rowV, h]
theorem rowsV_at (B : Nat) : ∀ (rs : List RowD) (k i : Nat), (∀ r ∈ rs, r.codes.length = 5) → i < rs.length →
    ((rowsV B k rs).drop (i * 11)).take 11 = rowV (slAt B k rs i) (rs.getD i default)
  | [], _, _, _, hi => by simp at hi
  | r :: rs, k, 0, h, _ => by
    have := rowV_length (h r (by simp)) (termSl B k r.terms)
    simp [rowsV, slAt, List.take_append, this]
  | r :: rs, k, i + 1, h, hi => by
    have hl := rowV_length (h r (by simp)) (termSl B k r.terms)
    have ih := rowsV_at B rs (nextK k r.terms) i (fun r hr => h r (by simp [hr])) (by simpa using hi)
    rw [rowsV, show (i + 1) * 11 = 11 + i * 11 by omega, ← List.drop_drop, List.drop_left' hl, ih]
    simp [slAt]
theorem rows_extract (B i : Nat) (hi : i < 48) : (rowsV B 1 tabRows).toArray.extract (i * 11) (i * 11 + 11) = (rowV (slAt B 1 tabRows i) (rowAt i)).toArray := by
  have h := rowsV_at B tabRows 1 i rows_codes (by simpa [tabRows] using hi)
  rw [List.extract_toArray]
  congr 1
  rw [List.extract_eq_take_drop, show i * 11 + 11 - i * 11 = 11 by omega]
  exact h
theorem slAt_terms (B : Nat) (W : World) (b0 : Nat) (hb : b0 ≤ B) : ∀ (rs : List RowD) (k : Nat), (∀ j o, (rowsN rs)[j]? = some o → W.heap[B + k + j]? = some o) → (∀ r ∈ rs, r.terms.length ≤ 1000) →
    ∀ i, i < rs.length → TermsAt b0 W (slAt B k rs i) (rs.getD i default).terms
  | [], _, _, _, i, hi => by simp at hi
  | r :: rs, k, h, hl, 0, _ => by
    have hlr := hl r (by simp)
    simp only [slAt, List.getD_cons_zero]
    cases ht : r.terms with
    | nil => exact ⟨⟨by simp [termsV], .inl ⟨rfl, rfl⟩⟩, fun _ => rfl⟩
    | cons t ts =>
      have h0 := h 0 (.cells (termsV (t :: ts)).toArray 98) (by simp [rowsN, ht])
      rw [ht] at hlr
      refine ⟨⟨?_, .inr ⟨B + k, ts.length + 1, (termsV (t :: ts)).toArray, rfl, by omega, h0, Nat.le_refl _, ?_, ?_, ?_⟩⟩, fun e => by simp at e⟩
      · simp [termsV, List.length_flatMap, termV, List.map_const', Nat.mul_comm]; omega
      · unfold maxLen; simp at hlr; omega
      · simp [termsV, List.length_flatMap, termV, List.map_const', Nat.mul_comm]; omega
      · apply List.take_of_length_le
        simp [termsV, List.length_flatMap, termV, List.map_const', Nat.mul_comm]; omega
  | r :: rs, k, h, hl, i + 1, hi => by
    simp only [slAt, List.getD_cons_succ]
    refine slAt_terms B W b0 hb rs (nextK k r.terms) (fun j o hj => ?_) (fun r hr => hl r (by simp [hr])) i (by simpa using hi)
    cases ht : r.terms with
    | nil => exact h j o (by simpa [rowsN, ht] using hj)
    | cons t ts =>
      have := h (j + 1) o (by simpa [rowsN, ht] using hj)
      rw [show B + nextK k (t :: ts) + j = B + k + (j + 1) by simp [nextK]; omega]
      exact this
theorem rows_short : ∀ r ∈ tabRows, r.terms.length ≤ 1000 := by decide
def codeAt (i n : Nat) : List UInt8 := (rowAt i).codes.getD n []
theorem codes_at (i : Nat) (hi : i < 48) : (rowAt i).codes = [codeAt i 0, codeAt i 1, codeAt i 2, codeAt i 3, codeAt i 4] := by
  have h : (rowAt i).codes.length = 5 := rows_codes _ (by
    have : i < tabRows.length := by simpa [tabRows] using hi
    simp only [rowAt, List.getD_eq_getElem?_getD, List.getElem?_eq_getElem this, Option.getD_some]
    exact List.getElem_mem _)
  unfold codeAt
  match hc : (rowAt i).codes, h with
  | [a, b, c, d, e], _ => rfl
theorem TermsAt.kept {B : Nat} {w w' : World} {s : Value} {ts : List (Int × Int)} (h : TermsAt B w s ts) {row : Option Nat} (hg : w.grownBy w' row) (hne : s.ownBlock = none ∨ s.ownBlock ≠ row) : TermsAt B w' s ts := ⟨h.own.kept hg hne, h.nil⟩
theorem own_ne {w : World} {B e s n : Nat} {v : Value} {xs : List Value} (h : w.ownsRow B e s v n xs) {k : Nat} {c : Array Value} {t : TypeId} {fr : Nat × Nat} (hk : w.heap[k]? = some (.cells c t fr)) (ht : e ≠ t) : v.ownBlock = none ∨ v.ownBlock ≠ some k := by
  rcases h.2 with ⟨rfl, _⟩ | ⟨g, cap, cur, rfl, _, hh, _⟩
  · exact .inl rfl
  · refine .inr fun e => ?_
    have : g = k := by simpa [Value.ownBlock] using e
    subst this
    rw [hh] at hk
    injection hk with hk
    injection hk with _ h2
    exact ht h2
theorem own_own {w : World} {B e s n B' e' s' n' : Nat} {v v' : Value} {xs xs' : List Value} (h : w.ownsRow B e s v n xs) (h' : w.ownsRow B' e' s' v' n' xs') (ht : e ≠ e') : v.ownBlock = none ∨ v.ownBlock ≠ v'.ownBlock := by
  rcases h'.2 with ⟨rfl, _⟩ | ⟨g, cap, cur, rfl, _, hh, _⟩
  · cases hv : v.ownBlock with
    | none => exact .inl rfl
    | some k => exact .inr (by simp [Value.ownBlock])
  · exact own_ne h hh ht
theorem grownBy_setCell (w : World) (a : Addr) (v : Value) : w.grownBy (w.setCell a v) (some a.block) :=
  ⟨rfl, rfl, rfl, by simp [World.setCell], fun k _ hk => Below.heap_setCell _ _ _ _ (by intro e; exact hk (by rw [e]))⟩
theorem grownBy_below {B : Nat} {w w' : World} (h : Below w.heap.size w w') (row : Option Nat) : w.grownBy w' row := ⟨h.os, h.tape, h.output, h.size, fun k hk _ => h.block k hk⟩
/-- What the loop of 'Table' keeps. -/
def TLoop (w : World) (tb : Nat) (vp : Value) (rs : Nat → Value) (k : Nat) (wr : World) : Prop :=
  ∃ va ss, wr.heap[tb]? = some (.cells #[va, vp] 89 (0, 0)) ∧ wr.ownsRow w.heap.size 124 12 va k (atomsV k ss) ∧ (∀ i, i < k → TermsAt w.heap.size wr (ss i) (rowAt i).terms) ∧
    wr.ownsRow w.heap.size 145 6 vp 20 (presV tabPres) ∧ (∀ i, i < 48 → TermsAt w.heap.size wr (rs i) (rowAt i).terms) ∧ Below w.heap.size w wr ∧ wr.heap[w.heap.size]? = some (.cells #[.slice none 0 0, .slice none 0 0] 89 (0, 0))
theorem TermsAt.heap {B : Nat} {w w' : World} {s : Value} {ts : List (Int × Int)} (h : TermsAt B w s ts) (e : w'.heap = w.heap) : TermsAt B w' s ts := by
  refine ⟨⟨h.own.1, ?_⟩, h.nil⟩
  have := h.own.2
  rw [e]; exact this
theorem TermsAt.alloc {B : Nat} {w : World} {s : Value} {ts : List (Int × Int)} (h : TermsAt B w s ts) (o : Obj) : TermsAt B (w.alloc o) s ts := ⟨h.own.alloc o, h.nil⟩

theorem bcell {W w1 : World} (hb : Below W.heap.size W w1) : (∀ b o, b < W.heap.size → w1.cell? ⟨b, o, none⟩ = W.cell? ⟨b, o, none⟩) ∧ (∀ b o, b < W.heap.size → w1.frozen? ⟨b, o, none⟩ = W.frozen? ⟨b, o, none⟩) :=
  ⟨fun b o h => hb.cell (p := ⟨b, o, none⟩) h, fun b o h => hb.frozen (p := ⟨b, o, none⟩) h⟩
theorem cellNew (w : World) (cs : Array Value) (t : TypeId) (j : Nat) (v : Value) (h : cs[j]? = some v) : (w.alloc (.cells cs t)).cell? ⟨w.heap.size, j, none⟩ = some v := by
  simp only [World.cell?, heap_alloc_new]
  simpa using h
theorem slice_of {w : World} {B e z n : Nat} {v : Value} {xs : List Value} (h : w.ownsRow B e z v n xs) : ∃ a c, v = .slice a n c := by
  rcases h.2 with ⟨rfl, rfl⟩ | ⟨g, cap, cur, rfl, _⟩
  · exact ⟨none, 0, rfl⟩
  · exact ⟨_, cap, rfl⟩
theorem termsV_length (ts : List (Int × Int)) : (termsV ts).length = ts.length * 2 := by
  induction ts with
  | nil => rfl
  | cons t r ih => simp [termsV, termV] at ih ⊢; omega
theorem termsV_one (ts : List (Int × Int)) : ∀ u ∈ termsV ts, u.oneCell' = true := by
  intro u hu
  simp only [termsV, List.mem_flatMap, termV, intV] at hu
  obtain ⟨t, _, ht⟩ := hu
  simp at ht
  rcases ht with rfl | rfl <;> rfl
theorem cloneT_any (w : World) (B : Nat) (s : Value) (ts : List (Int × Int)) (h : TermsAt B w s ts) (hl : ts.length ≤ 1000) :
    Calls Tryd.prog 84 #[s] w fun e w' => (∃ s', e = .returned s' ∧ TermsAt w.heap.size w' s' ts) ∧ Below w.heap.size w w' := by
  cases ts with
  | nil =>
    rw [h.nil rfl]
    refine (cloneT_nil w).mono ?_
    rintro e w' ⟨rfl, rfl⟩
    exact ⟨⟨_, rfl, ⟨World.ownsRow_nil _ _ _ _, fun _ => rfl⟩⟩, Below.refl _ _⟩
  | cons t r =>
    obtain ⟨g, cap, rfl⟩ : ∃ g cap, s = .slice (some ⟨g, 0, none⟩) (t :: r).length cap := by
      rcases h.own.2 with ⟨_, h0⟩ | ⟨g, cap, cur, hv, _⟩
      · simp at h0
      · exact ⟨g, cap, hv⟩
    refine (cloneT_some w ⟨g, 0, none⟩ (t :: r).length cap (termsV (t :: r)) (termsV_length _) (fun j u hu => h.own.cells rfl j u hu) (termsV_one _) hl).mono ?_
    rintro e w' ⟨⟨v, rfl, ho, _⟩, hb⟩
    exact ⟨⟨v, rfl, ⟨ho, fun e => by simp at e⟩⟩, hb⟩
def atomArr (k : Nat) (b : Int) (s : Value) : Array Value := #[.string ⟨(codeAt k 0).toArray⟩, .string ⟨(codeAt k 1).toArray⟩, .string ⟨(codeAt k 2).toArray⟩, .string ⟨(codeAt k 3).toArray⟩, .string ⟨(codeAt k 4).toArray⟩, .bool (rowAt k).metric, .int .i64 (rowAt k).tag, .int .i64 b, .int .i64 (rowAt k).num, .int .i64 (rowAt k).den, .int .i64 (rowAt k).ten, s]
def MidR (w wr : World) (k : Nat) (p : Value) (wx : World) : Prop :=
  ∃ b4 a3 n3 c3, p = .pointer (some ⟨b4, 0, none⟩) ∧ wr.heap.size ≤ b4 ∧ wx.heap[b4]? = some (.cells (atomArr k (-1) (.slice a3 n3 c3)) 124 (0, 0)) ∧ TermsAt w.heap.size wx (.slice a3 n3 c3) (rowAt k).terms ∧ Below wr.heap.size wr wx
theorem TermsAt.base {B B' : Nat} {w : World} {s : Value} {ts : List (Int × Int)} (h : TermsAt B' w s ts) (hB : B ≤ B') : TermsAt B w s ts := by
  refine ⟨⟨h.own.1, ?_⟩, h.nil⟩
  rcases h.own.2 with h0 | ⟨g, cap, cur, hv, hb, r⟩
  · exact .inl h0
  · exact .inr ⟨g, cap, cur, hv, by omega, r⟩
theorem grownTrans {w w1 w2 : World} {r : Option Nat} (h : w.grownBy w1 r) (k : w1.grownBy w2 r) : w.grownBy w2 r :=
  ⟨k.os.trans h.os, k.tape.trans h.tape, k.output.trans h.output, Nat.le_trans h.size k.size, fun i hi hn => (k.block i (Nat.lt_of_lt_of_le hi h.size) hn).trans (h.block i hi hn)⟩
theorem TermsAt.below {B : Nat} {w w' : World} {s : Value} {ts : List (Int × Int)} (h : TermsAt B w s ts) (hb : Below w.heap.size w w') : TermsAt B w' s ts :=
  h.kept (grownBy_below (B := 0) hb none) (by cases s.ownBlock <;> simp)
theorem belowIn {B : Nat} {w w' : World} (h : Below B w w') (hB : w.heap.size ≤ B) : Below w.heap.size w w' := h.mono hB
theorem atomV_at (s : Value) (k : Nat) (hk : k < 48) (b : Int) (hb : baseAt k = b) : atomV s k = (atomArr k b s).toList := by
  simp only [atomV, codes_at k hk, hb, atomArr, List.map_cons, List.map_nil, strV, intV]
  rfl
theorem atomsV_succ (k : Nat) (ss : Nat → Value) (s : Value) : atomsV (k + 1) (fun i => if i = k then s else ss i) = atomsV k ss ++ atomV s k := by
  unfold atomsV
  rw [List.range_succ, List.flatMap_append]
  congr 1
  · have : ∀ (l : List Nat), (∀ i ∈ l, i < k) → l.flatMap (fun i => atomV (if i = k then s else ss i) i) = l.flatMap (fun i => atomV (ss i) i) := by
      intro l
      induction l with
      | nil => intro _; rfl
      | cons a l ih =>
        intro h
        have ha := h a (by simp)
        simp only [List.flatMap_cons, if_neg (show ¬ a = k by omega), ih (fun i hi => h i (by simp [hi]))]
    exact this _ (fun i hi => List.mem_range.1 hi)
  · simp
theorem TLoop_next {w wr WA wd : World} {tb k : Nat} {vp va v' s : Value} {rs ss : Nat → Value} (ht1 : wr.heap[tb]? = some (.cells #[va, vp] 89 (0, 0))) (ht2 : wr.ownsRow w.heap.size 124 12 va k (atomsV k ss)) (ht3 : ∀ i, i < k → TermsAt w.heap.size wr (ss i) (rowAt i).terms)
    (ht4 : wr.ownsRow w.heap.size 145 6 vp 20 (presV tabPres)) (ht5 : ∀ i, i < 48 → TermsAt w.heap.size wr (rs i) (rowAt i).terms) (ht6 : Below w.heap.size w wr) (ht7 : wr.heap[w.heap.size]? = some (.cells #[.slice none 0 0, .slice none 0 0] 89 (0, 0)))
    (htb : w.heap.size < tb) (hWA : Below wr.heap.size wr WA) (hs : TermsAt w.heap.size WA s (rowAt k).terms) (hg : WA.grownBy wd va.ownBlock) (ho : wd.ownsRow w.heap.size 124 12 v' (k + 1) (atomsV k ss ++ atomV s k)) :
    TLoop w tb vp rs (k + 1) (wd.setCell ⟨tb, 0, none⟩ v') := by
  have l1 := (Array.getElem?_eq_some_iff.1 ht1).1
  have l7 := (Array.getElem?_eq_some_iff.1 ht7).1
  have a1 := (hWA.block tb l1).trans ht1
  have a7 := (hWA.block w.heap.size l7).trans ht7
  have a2 : WA.ownsRow w.heap.size 124 12 va k (atomsV k ss) := ht2.kept (grownBy_below (B := 0) hWA none) (by cases va.ownBlock <;> simp)
  have a4 : WA.ownsRow w.heap.size 145 6 vp 20 (presV tabPres) := ht4.kept (grownBy_below (B := 0) hWA none) (by cases vp.ownBlock <;> simp)
  have n1 := own_ne a2 a1 (by decide)
  have n7 := own_ne a2 a7 (by decide)
  have d1 : wd.heap[tb]? = some (.cells #[va, vp] 89 (0, 0)) := (hg.block tb (Nat.lt_of_lt_of_le l1 hWA.size) (by rcases n1 with h | h; (rw [h]; simp); exact fun e => h e.symm)).trans a1
  have d7 := (hg.block w.heap.size (Nat.lt_of_lt_of_le l7 hWA.size) (by rcases n7 with h | h; (rw [h]; simp); exact fun e => h e.symm)).trans a7
  have gt : wd.grownBy (wd.setCell ⟨tb, 0, none⟩ v') (some tb) := grownBy_setCell wd ⟨tb, 0, none⟩ v'
  have keepT : ∀ x ts, TermsAt w.heap.size WA x ts → TermsAt w.heap.size (wd.setCell ⟨tb, 0, none⟩ v') x ts := fun x ts hx => by
    have h1 := hx.kept hg (own_own hx.own a2 (by decide))
    exact h1.kept gt (own_ne h1.own d1 (by decide))
  refine ⟨v', fun i => if i = k then s else ss i, ?_, ?_, ?_, ?_, ?_, ?_, ?_⟩
  · exact heap_setCell_same wd tb 0 #[va, vp] 89 v' d1
  · rw [atomsV_succ]
    exact ho.kept gt (own_ne ho d1 (by decide))
  · intro i hi
    by_cases e : i = k
    · subst e
      simp only [if_true]
      exact keepT _ _ hs
    · simp only [if_neg e]
      exact keepT _ _ ((ht3 i (by omega)).below hWA)
  · have h1 := a4.kept hg (own_own a4 a2 (by decide))
    exact h1.kept gt (own_ne h1 d1 (by decide))
  · exact fun i hi => keepT _ _ ((ht5 i hi).below hWA)
  · have h1 : Below w.heap.size w WA := ht6.trans (hWA.mono ht6.size)
    have h2 : Below w.heap.size w wd := h1.grown hg h1.size (fun j hj => by
      rcases a2.2 with ⟨rfl, _⟩ | ⟨g, cap, cur, rfl, hb, _⟩
      · simp [Value.ownBlock] at hj
      · simp [Value.ownBlock] at hj; omega)
    exact h2.setCell (p := ⟨tb, 0, none⟩) (by show w.heap.size ≤ tb; omega) v'
  · rw [heap_setCell_other _ _ _ _ (by show w.heap.size ≠ tb; omega)]; exact d7
theorem midR1 {w wr w2 w3 : World} {k : Nat} {a3 : Option Addr} {n3 c3 : Nat} (h6 : w.heap.size ≤ wr.heap.size) (h2 : Below wr.heap.size wr w2) (hb3 : Below w2.heap.size w2 w3) (ht : TermsAt w2.heap.size w3 (.slice a3 n3 c3) (rowAt k).terms) :
    MidR w wr k (.pointer (some ⟨w3.heap.size, 0, none⟩)) (w3.alloc (.cells (atomArr k (-1) (.slice a3 n3 c3)) 124)) := by
  have s2 := h2.size
  have s3 := hb3.size
  exact ⟨w3.heap.size, a3, n3, c3, rfl, by omega, heap_alloc_new w3 _, (ht.base (by omega)).alloc _, (h2.trans (hb3.mono s2)).alloc (by omega) _⟩
theorem midR2 {w wr w2 w3 : World} {k b : Nat} {a3 : Option Addr} {n3 c3 : Nat} (h6 : w.heap.size ≤ wr.heap.size) (h2 : Below wr.heap.size wr w2) (hb3 : Below w2.heap.size w2 w3) (ht : TermsAt w2.heap.size w3 (.slice a3 n3 c3) (rowAt k).terms) (hb : wr.heap.size ≤ b) (hbl : b < w2.heap.size)
    (e0 : w2.heap[b]? = some (.cells #[.string ⟨#[]⟩, .string ⟨#[]⟩, .string ⟨#[]⟩, .string ⟨#[]⟩, .string ⟨#[]⟩, .bool false, .int .i64 0, .int .i64 0, .int .i64 0, .int .i64 0, .int .i64 0, .slice none 0 0] 124 (0, 0))) :
    MidR w wr k (.pointer (some ⟨b, 0, none⟩)) ((((((((((((w3.setCell ⟨b, 0, none⟩ (.string ⟨(codeAt k 0).toArray⟩)).setCell ⟨b, 1, none⟩ (.string ⟨(codeAt k 1).toArray⟩)).setCell ⟨b, 2, none⟩ (.string ⟨(codeAt k 2).toArray⟩)).setCell ⟨b, 3, none⟩ (.string ⟨(codeAt k 3).toArray⟩)).setCell ⟨b, 4, none⟩ (.string ⟨(codeAt k 4).toArray⟩)).setCell
      ⟨b, 5, none⟩ (.bool (rowAt k).metric)).setCell ⟨b, 6, none⟩ (.int .i64 (rowAt k).tag)).setCell ⟨b, 7, none⟩ (.int .i64 (-1))).setCell ⟨b, 8, none⟩ (.int .i64 (rowAt k).num)).setCell ⟨b, 9, none⟩ (.int .i64 (rowAt k).den)).setCell ⟨b, 10, none⟩ (.int .i64 (rowAt k).ten)).setCell ⟨b, 11, none⟩ (.slice a3 n3 c3)) := by
  have s2 := h2.size
  have s3 := hb3.size
  replace e0 := (hb3.block b hbl).trans e0
  have e1 := heap_setCell_same w3 _ 0 _ _ (.string ⟨(codeAt k 0).toArray⟩) e0
  have e2 := heap_setCell_same _ _ 1 _ _ (.string ⟨(codeAt k 1).toArray⟩) e1
  have e3 := heap_setCell_same _ _ 2 _ _ (.string ⟨(codeAt k 2).toArray⟩) e2
  have e4 := heap_setCell_same _ _ 3 _ _ (.string ⟨(codeAt k 3).toArray⟩) e3
  have e5 := heap_setCell_same _ _ 4 _ _ (.string ⟨(codeAt k 4).toArray⟩) e4
  have e6 := heap_setCell_same _ _ 5 _ _ (.bool (rowAt k).metric) e5
  have e7 := heap_setCell_same _ _ 6 _ _ (.int .i64 (rowAt k).tag) e6
  have e8 := heap_setCell_same _ _ 7 _ _ (.int .i64 (-1)) e7
  have e9 := heap_setCell_same _ _ 8 _ _ (.int .i64 (rowAt k).num) e8
  have e10 := heap_setCell_same _ _ 9 _ _ (.int .i64 (rowAt k).den) e9
  have e11 := heap_setCell_same _ _ 10 _ _ (.int .i64 (rowAt k).ten) e10
  have e12 := heap_setCell_same _ _ 11 _ _ (.slice a3 n3 c3) e11
  have gg := grownTrans (grownTrans (grownTrans (grownTrans (grownTrans (grownTrans (grownTrans (grownTrans (grownTrans (grownTrans (grownTrans (grownBy_setCell w3 ⟨b, 0, none⟩ (.string ⟨(codeAt k 0).toArray⟩)) (grownBy_setCell _ ⟨b, 1, none⟩ (.string ⟨(codeAt k 1).toArray⟩))) (grownBy_setCell _ ⟨b, 2, none⟩ (.string ⟨(codeAt k 2).toArray⟩))) (grownBy_setCell _ ⟨b, 3, none⟩ (.string ⟨(codeAt k 3).toArray⟩))) (grownBy_setCell _ ⟨b, 4, none⟩ (.string ⟨(codeAt k 4).toArray⟩))) (grownBy_setCell _ ⟨b, 5, none⟩ (.bool (rowAt k).metric))) (grownBy_setCell _ ⟨b, 6, none⟩ (.int .i64 (rowAt k).tag))) (grownBy_setCell _ ⟨b, 7, none⟩ (.int .i64 (-1)))) (grownBy_setCell _ ⟨b, 8, none⟩ (.int .i64 (rowAt k).num))) (grownBy_setCell _ ⟨b, 9, none⟩ (.int .i64 (rowAt k).den))) (grownBy_setCell _ ⟨b, 10, none⟩ (.int .i64 (rowAt k).ten))) (grownBy_setCell _ ⟨b, 11, none⟩ (.slice a3 n3 c3))
  have q1 : TermsAt w.heap.size _ (.slice a3 n3 c3) (rowAt k).terms := (ht.base (by omega)).kept gg (own_ne ht.own e0 (by decide))
  have q2 : Below wr.heap.size wr _ := (h2.trans (hb3.mono s2)).grown gg (by omega) (fun j hj => by have : b = j := by simpa using hj
                                                                                                    omega)
  refine ⟨b, a3, n3, c3, rfl, hb, ?_, q1, q2⟩
  rw [e12]
  simp [atomArr]
theorem info_A : (Tryd.prog.info? 124).map (fun i => (i.zero, i.size, i.bytes)) = some (some (.agg #[.string ⟨#[]⟩, .string ⟨#[]⟩, .string ⟨#[]⟩, .string ⟨#[]⟩, .string ⟨#[]⟩, .bool false, .int .i64 0, .int .i64 0, .int .i64 0, .int .i64 0, .int .i64 0, .slice none 0 0]), 12, 152) := by kernel_rfl
theorem cellNew2 {w : World} {cs : Array Value} {t : TypeId} {n j : Nat} {v : Value} (hn : n = w.heap.size) (h : cs.toList[j]? = some v) : (w.alloc (.cells cs t)).cell? ((⟨n, 0, none⟩ : Addr).add j) = some v := by
  subst hn
  rw [addPlain]
  exact cellNew w cs t j v (by simpa using h)
theorem atomArr_one (k : Nat) (b : Int) (a : Option Addr) (n c : Nat) : ∀ u ∈ (atomArr k b (.slice a n c)).toList, u.oneCell' = true := by
  intro u hu
  simp only [atomArr, List.mem_cons, List.not_mem_nil, or_false] at hu
  rcases hu with h | h | h | h | h | h | h | h | h | h | h | h <;> subst h <;> rfl
theorem ownSetOther {w : World} {B e s n b j : Nat} {v x : Value} {xs : List Value} (h : w.ownsRow B e s v n xs) (hne : v.ownBlock = none ∨ v.ownBlock ≠ some b) : (w.setCell ⟨b, j, none⟩ x).ownsRow B e s v n xs := h.kept (grownBy_setCell w ⟨b, j, none⟩ x) hne
theorem own_old {w : World} {B e s n b : Nat} {v : Value} {xs : List Value} (h : w.ownsRow B e s v n xs) (hb : w.heap.size ≤ b) : v.ownBlock = none ∨ v.ownBlock ≠ some b := by
  cases hv : v.ownBlock with
  | none => exact .inl rfl
  | some k => exact .inr (fun e => by have := (h.lt k hv).2; simp at e; omega)
theorem ownBelow {w w' : World} {B e s n : Nat} {v : Value} {xs : List Value} (h : w.ownsRow B e s v n xs) (hb : Below w.heap.size w w') : w'.ownsRow B e s v n xs := h.kept (grownBy_below (B := 0) hb none) (by cases v.ownBlock <;> simp)
theorem rowAt_mem (k : Nat) (hk : k < 48) : rowAt k ∈ tabRows := by
  have : k < tabRows.length := by simpa [tabRows] using hk
  simp only [rowAt, List.getD_eq_getElem?_getD, List.getElem?_eq_getElem this, Option.getD_some]
  exact List.getElem_mem _
theorem run_index_arr {P : Program} {t e n size : Nat} (ht : P.underlying t = some (.array n e)) (he : (match P.underlying e with | some (.struct _) | some (.array _ _) => true | _ => false) = true) (hi : (P.info? e).map (·.size) = some size) (cs : Array Value) (k : Nat) (hk : k < n) (w : World) :
    (Instr.index t (.agg cs) (.int .i64 k)).run P w = .ok (.agg (cs.extract (k * size) (k * size + size))) w := by
  cases hq : P.info? e with
  | none => simp [hq] at hi
  | some i =>
    have hs : i.size = size := by simpa [hq] using hi
    cases hu : P.underlying e with
    | none => simp [hu] at he
    | some d =>
      have hagg : (isAgg e).run P w = .ok true w := by
        unfold isAgg
        rw [Sem.run_bind, run_underlying hu w]
        cases d <;> simp_all
      have hlt : (0 : Int) ≤ (k : Int) ∧ (k : Int) < (n : Int) := ⟨by omega, by omega⟩
      simp [Instr.index, asIntOf, Sem.run_bind, run_underlying ht, hlt, part, hagg, sizeOf, typeInfo, hq, hs]
      intro h; omega
theorem rows_index (B k : Nat) (hk : k < 48) (a : Option Addr) (n c : Nat) (hs : slAt B 1 tabRows k = .slice a n c) (wx : World) :
    (Instr.index 150 (.agg (rowsV B 1 tabRows).toArray) (.int .i64 k)).run Tryd.prog wx = .ok (.agg #[.string ⟨(codeAt k 0).toArray⟩, .string ⟨(codeAt k 1).toArray⟩, .string ⟨(codeAt k 2).toArray⟩, .string ⟨(codeAt k 3).toArray⟩, .string ⟨(codeAt k 4).toArray⟩, .bool (rowAt k).metric, .int .i64 (rowAt k).tag, .int .i64 (rowAt k).num, .int .i64 (rowAt k).den, .int .i64 (rowAt k).ten, .slice a n c]) wx := by
  rw [run_index_arr (size := 11) Tryd.underlying150 (by kernel_rfl) (by kernel_rfl) _ k hk wx, rows_extract B k hk, hs]
  simp only [rowV, codes_at k hk, List.map_cons, List.map_nil, strV, intV]
  rfl
theorem TLoop_start {w w1 : World} {g m : Nat} (h1 : w1.ownsRow (w.heap.size + 1) 145 6 (.slice (some ⟨g, 0, none⟩) 20 m) 20 (presV tabPres)) (hb : Below (w.heap.size + 1) (w.alloc (.cells #[.slice none 0 0, .slice none 0 0] 89)) w1) (hlt : w.heap.size < w1.heap.size) :
    TLoop w w1.heap.size (.slice (some ⟨g, 0, none⟩) 20 m) (slAt (w1.heap.size + 1) 1 tabRows) 0 (news (w1.alloc (.cells #[.slice none 0 0, .slice (some ⟨g, 0, none⟩) 20 m] 89)) (.cells (rowsV (w1.heap.size + 1) 1 tabRows).toArray 150 :: rowsN tabRows)) := by
  have hn := news_below (w1.alloc (.cells #[.slice none 0 0, .slice (some ⟨g, 0, none⟩) 20 m] 89)) (.cells (rowsV (w1.heap.size + 1) 1 tabRows).toArray 150 :: rowsN tabRows)
  have hs : (w1.alloc (.cells #[.slice none 0 0, .slice (some ⟨g, 0, none⟩) 20 m] 89)).heap.size = w1.heap.size + 1 := by simp
  refine ⟨.slice none 0 0, fun _ => .slice none 0 0, ?_, World.ownsRow_nil _ _ _ _, fun i hi => by omega, ?_, ?_, ?_, ?_⟩
  · rw [hn.block _ (by rw [hs]; omega)]
    exact heap_alloc_new w1 _
  · have h2 := ownBelow (h1.alloc (.cells #[.slice none 0 0, .slice (some ⟨g, 0, none⟩) 20 m] 89)) hn
    rcases h2.2 with h0 | ⟨g', cap, cur, hv, hb', r⟩
    · exact ⟨h2.1, .inl h0⟩
    · exact ⟨h2.1, .inr ⟨g', cap, cur, hv, by omega, r⟩⟩
  · intro i hi
    refine slAt_terms (w1.heap.size + 1) _ w.heap.size (by omega) tabRows 1 (fun j o hj => ?_) rows_short i (by simpa [tabRows] using hi)
    have := news_new (w1.alloc (.cells #[.slice none 0 0, .slice (some ⟨g, 0, none⟩) 20 m] 89)) (.cells (rowsV (w1.heap.size + 1) 1 tabRows).toArray 150 :: rowsN tabRows) (j + 1) o (by simpa using hj)
    rw [hs] at this
    rw [show w1.heap.size + 1 + 1 + j = w1.heap.size + 1 + (j + 1) by omega]
    exact this
  · have b1 : Below w.heap.size w w1 := ((Below.refl _ w).alloc (Nat.le_refl _) _).trans (hb.mono (by omega))
    exact (b1.alloc b1.size _).trans (hn.mono (by rw [hs]; omega))
  · rw [hn.block _ (by rw [hs]; omega), Below.heap_alloc w1 _ _ hlt, hb.block _ (by omega)]
    exact heap_alloc_new w _
theorem table_end {w wr : World} {va vp : Value} {ss : Nat → Value} (ht2 : wr.ownsRow w.heap.size 124 12 va 48 (atomsV 48 ss)) (ht3 : ∀ i, i < 48 → TermsAt w.heap.size wr (ss i) (rowAt i).terms)
    (ht4 : wr.ownsRow w.heap.size 145 6 vp 20 (presV tabPres)) (ht6 : Below w.heap.size w wr) (ht7 : wr.heap[w.heap.size]? = some (.cells #[.slice none 0 0, .slice none 0 0] 89 (0, 0))) (x y : Value) :
    TableAt w.heap.size ((wr.setCell ⟨w.heap.size, 0, none⟩ x).setCell ⟨w.heap.size, 1, none⟩ y) va vp ss ∧ Below w.heap.size w ((wr.setCell ⟨w.heap.size, 0, none⟩ x).setCell ⟨w.heap.size, 1, none⟩ y) := by
  have hg := grownTrans (grownBy_setCell wr ⟨w.heap.size, 0, none⟩ x) (grownBy_setCell _ ⟨w.heap.size, 1, none⟩ y)
  exact ⟨⟨ht2.kept hg (own_ne ht2 ht7 (by decide)), ht4.kept hg (own_ne ht4 ht7 (by decide)), fun i hi => (ht3 i hi).kept hg (own_ne (ht3 i hi).own ht7 (by decide))⟩,
    (ht6.setCell (p := ⟨w.heap.size, 0, none⟩) (Nat.le_refl _) x).setCell (p := ⟨w.heap.size, 1, none⟩) (Nat.le_refl _) y⟩
theorem zeroTable (w : World) : (zeroValue 89).run Tryd.prog w = .ok (.agg #[.slice none 0 0, .slice none 0 0]) w := by kernel_rfl
def SomeTerms (B : Nat) (w0 : World) (ts : List (Int × Int)) (e : Ending) (w' : World) : Prop := (∃ a n c, e = .returned (.slice a n c) ∧ TermsAt B w' (.slice a n c) ts) ∧ Below B w0 w'
theorem clone_in (w : World) (B : Nat) (s : Value) (ts : List (Int × Int)) (h : TermsAt B w s ts) (hl : ts.length ≤ 1000) :
    Calls Tryd.prog 84 #[s] w (SomeTerms w.heap.size w ts) := (cloneT_any w B s ts h hl).mono fun e w' ⟨⟨s', he, ht⟩, hb⟩ => by
  obtain ⟨a, c, rfl⟩ := slice_of ht.own
  exact ⟨⟨a, _, c, he, ht⟩, hb⟩
set_option maxRecDepth 100000 in
set_option maxHeartbeats 1000000 in
theorem table_calls (w : World) (hL : Laid w) : Calls Tryd.prog 66 #[] w fun e w' => (∃ va vp ss, e = .returned (.agg #[va, vp]) ∧ TableAt w.heap.size w' va vp ss) ∧ Below w.heap.size w w' := by
  have hp : ∀ (o : Obj) j u, (presV tabPres)[j]? = some u → (w.alloc o).cell? ((⟨0, 0, none⟩ : Addr).add j) = some u := fun o j u hu => by
    rw [addPlain]; exact cellAlloc _ (hL j u hu)
  have hone : ∀ u ∈ presV tabPres, u.oneCell' = true := by
    have : (presV tabPres).all (·.oneCell') = true := by kernel_rfl
    exact List.all_eq_true.1 this
  have HP := Lib.hid hp; have HL := Lib.hid hL; have H1 := Lib.hid hone
  clear hp hL hone
  go_enter Tryd.func66, Tryd.ntmps66
  go_wp2_with (first | (go_at_call 82; refine (cloneP_some _ ⟨0, 0, none⟩ 20 20 (presV tabPres) (by kernel_rfl) (HP.out _) H1.out (by omega)).mono ?_; rintro e w1 ⟨⟨v, rfl, hown, g, m, rfl⟩, hb⟩) | (go_at_call 83; refine (rows_calls _).mono ?_; rintro e w2 ⟨rfl, rfl⟩))
  obtain ⟨W3, hW3⟩ : ∃ W3 : World, W3 = news (w1.alloc (.cells #[.slice none 0 0, .slice (some ⟨g, 0, none⟩) 20 m] 89)) (.cells (rowsV (w1.heap.size + 1) 1 tabRows).toArray 150 :: rowsN tabRows) := ⟨_, rfl⟩
  have hB1 : w.heap.size < w1.heap.size := by have := hb.size; simp at this; omega
  have hsz1 : (w.alloc (.cells #[.slice none 0 0, .slice none 0 0] 89)).heap.size = w.heap.size + 1 := by simp
  have hT0 : TLoop w w1.heap.size (.slice (some ⟨g, 0, none⟩) 20 m) (slAt (w1.heap.size + 1) 1 tabRows) 0 W3 := by
    rw [hW3]
    rw [hsz1] at hown hb
    exact TLoop_start hown hb hB1
  clear hsz1
  rw [← hW3]
  have HW := Lib.hid hW3
  clear hW3
  go_loopw [9] (fun i wr => ∃ k : Nat, k ≤ 48 ∧ i = .int .i64 k ∧ TLoop w w1.heap.size (.slice (some ⟨g, 0, none⟩) 20 m) (slAt (w1.heap.size + 1) 1 tabRows) k wr) (fun i _ => 48 - (intOf i).toNat)
  case atStart => exact ⟨0, by omega, rfl, hT0⟩
  case round =>
    obtain ⟨k, hk, rfl, hT⟩ := hrel
    by_cases hlt : k < 48
    · obtain ⟨va, ss, ht1, ht2, ht3, ht4, ht5, ht6, ht7⟩ := hT
      obtain ⟨va1, va2, rfl⟩ := slice_of ht2
      have ht5k := ht5 k hlt
      obtain ⟨sa, sc, hsl⟩ := slice_of ht5k.own
      have hix := fun wx => rows_index (w1.heap.size + 1) k hlt _ _ _ hsl wx
      rw [hsl] at ht5k
      have hc0 : wr.cell? ⟨w1.heap.size, 0, none⟩ = some (.slice va1 k va2) := by simp [World.cell?, ht1]
      have hf0 : wr.frozen? ⟨w1.heap.size, 0, none⟩ = false := by simp [World.frozen?, ht1]
      have HT1 := Lib.hid ht1
      have HT2 := Lib.hid ht2; have HT3 := Lib.hid ht3; have HT4 := Lib.hid ht4; have HT5 := Lib.hid ht5; have HT6 := Lib.hid ht6; have HT7 := Lib.hid ht7; have HT5k := Lib.hid ht5k
      clear ht1 ht2 ht3 ht4 ht5 ht6 ht7 ht5k hsl
      have hll : (rowAt k).terms.length ≤ 1000 := rows_short _ (rowAt_mem k hlt)
      have HLL := Lib.hid hll; clear hll
      go_wp2_with fail
      have hS : ∀ w' : World, w'.heap[wr.heap.size]? = some (.cells #[.string ⟨(codeAt k 0).toArray⟩, .string ⟨(codeAt k 1).toArray⟩, .string ⟨(codeAt k 2).toArray⟩, .string ⟨(codeAt k 3).toArray⟩, .string ⟨(codeAt k 4).toArray⟩, .bool (rowAt k).metric, .int .i64 (rowAt k).tag, .int .i64 (rowAt k).num, .int .i64 (rowAt k).den, .int .i64 (rowAt k).ten, .slice sa (rowAt k).terms.length sc] 149 (0, 0)) → w'.heap[wr.heap.size]? = some (.cells #[.string ⟨(codeAt k 0).toArray⟩, .string ⟨(codeAt k 1).toArray⟩, .string ⟨(codeAt k 2).toArray⟩, .string ⟨(codeAt k 3).toArray⟩, .string ⟨(codeAt k 4).toArray⟩, .bool (rowAt k).metric, .int .i64 (rowAt k).tag, .int .i64 (rowAt k).num, .int .i64 (rowAt k).den, .int .i64 (rowAt k).ten, .slice sa (rowAt k).terms.length sc] 149 (0, 0)) := fun _ h => h
      clear hS
      go_cut [4] (fun p wx => MidR w wr k p wx)
      case first =>
       go_region_held3 (fun w' => w'.cell? ⟨wr.heap.size, 0, none⟩ = some (.string ⟨(codeAt k 0).toArray⟩) ∧ w'.cell? ⟨wr.heap.size, 1, none⟩ = some (.string ⟨(codeAt k 1).toArray⟩) ∧ w'.cell? ⟨wr.heap.size, 2, none⟩ = some (.string ⟨(codeAt k 2).toArray⟩) ∧ w'.cell? ⟨wr.heap.size, 3, none⟩ = some (.string ⟨(codeAt k 3).toArray⟩) ∧ w'.cell? ⟨wr.heap.size, 4, none⟩ = some (.string ⟨(codeAt k 4).toArray⟩) ∧ w'.cell? ⟨wr.heap.size, 5, none⟩ = some (.bool (rowAt k).metric) ∧ w'.cell? ⟨wr.heap.size, 6, none⟩ = some (.int .i64 (rowAt k).tag) ∧ w'.cell? ⟨wr.heap.size, 7, none⟩ = some (.int .i64 (rowAt k).num) ∧ w'.cell? ⟨wr.heap.size, 8, none⟩ = some (.int .i64 (rowAt k).den) ∧ w'.cell? ⟨wr.heap.size, 9, none⟩ = some (.int .i64 (rowAt k).ten) ∧ w'.cell? ⟨wr.heap.size, 10, none⟩ = some (.slice sa (rowAt k).terms.length sc)) (first | go_keep | ((repeat' apply And.intro) <;> first | exact (hc3 _ _ (by first | (simp; done) | (simp; omega))).trans (cellNew _ _ _ _ _ rfl) | exact (hc3 _ _ (by first | (simp; done) | (simp; omega))).trans (cellAlloc _ (cellNew _ _ _ _ _ rfl)))) ((go_at_call 84; refine (clone_in _ w.heap.size _ (rowAt k).terms (by first | exact (HT5k.out.alloc _).heap rfl | exact ((HT5k.out.alloc _).alloc _).heap rfl) HLL.out).mono ?_; intro e w3 hst; obtain ⟨⟨a3, n3, c3, rfl, hterm3⟩, hb3⟩ := hst; obtain ⟨hc3, hf3⟩ := bcell hb3; have hz3 : wr.heap.size + 1 ≤ w3.heap.size := by have := hb3.size; simp at this; omega))
       all_goals go_wp2_with fail
       all_goals go_meet
       · exact midR1 HT6.out.size ((Below.refl wr.heap.size wr).alloc (Nat.le_refl _) _).drew hb3 hterm3
       · exact midR2 HT6.out.size (((Below.refl wr.heap.size wr).alloc (Nat.le_refl _) _).alloc (by simp) _).drew hb3 hterm3 (by omega) (by simp) (heap_alloc2_new wr _ _)
      case rest =>
       obtain ⟨b4, a3, n3, c3, rfl, hb4, hh4, hterm4, hbw⟩ := hcut
       have q0 : wc.cell? ⟨b4, 0, none⟩ = some (.string ⟨(codeAt k 0).toArray⟩) := by simp [World.cell?, hh4, atomArr]
       have q1 : wc.cell? ⟨b4, 1, none⟩ = some (.string ⟨(codeAt k 1).toArray⟩) := by simp [World.cell?, hh4, atomArr]
       have q2 : wc.cell? ⟨b4, 2, none⟩ = some (.string ⟨(codeAt k 2).toArray⟩) := by simp [World.cell?, hh4, atomArr]
       have q3 : wc.cell? ⟨b4, 3, none⟩ = some (.string ⟨(codeAt k 3).toArray⟩) := by simp [World.cell?, hh4, atomArr]
       have q4 : wc.cell? ⟨b4, 4, none⟩ = some (.string ⟨(codeAt k 4).toArray⟩) := by simp [World.cell?, hh4, atomArr]
       have q5 : wc.cell? ⟨b4, 5, none⟩ = some (.bool (rowAt k).metric) := by simp [World.cell?, hh4, atomArr]
       have q6 : wc.cell? ⟨b4, 6, none⟩ = some (.int .i64 (rowAt k).tag) := by simp [World.cell?, hh4, atomArr]
       have q7 : wc.cell? ⟨b4, 7, none⟩ = some (.int .i64 (-1)) := by simp [World.cell?, hh4, atomArr]
       have q8 : wc.cell? ⟨b4, 8, none⟩ = some (.int .i64 (rowAt k).num) := by simp [World.cell?, hh4, atomArr]
       have q9 : wc.cell? ⟨b4, 9, none⟩ = some (.int .i64 (rowAt k).den) := by simp [World.cell?, hh4, atomArr]
       have q10 : wc.cell? ⟨b4, 10, none⟩ = some (.int .i64 (rowAt k).ten) := by simp [World.cell?, hh4, atomArr]
       have q11 : wc.cell? ⟨b4, 11, none⟩ = some (.slice a3 n3 c3) := by simp [World.cell?, hh4, atomArr]
       have qf : wc.frozen? ⟨b4, 7, none⟩ = false := by simp [World.frozen?, hh4]
       have hwc0 : wc.cell? ⟨w1.heap.size, 0, none⟩ = some (.slice va1 k va2) := (hbw.cell (World.block_lt_of_cell? _ _ hc0)).trans hc0
       have hwf0 : wc.frozen? ⟨w1.heap.size, 0, none⟩ = false := (hbw.frozen (World.block_lt_of_cell? _ _ hc0)).trans hf0
       have hne : ¬ w1.heap.size = b4 := by have := World.block_lt_of_cell? _ _ hc0; simp at this; omega
       have HB4 := Lib.hid hb4; have HH4 := Lib.hid hh4; have HTM := Lib.hid hterm4; have HBW := Lib.hid hbw
       clear hb4 hh4 hterm4 hbw hc0 hf0
       obtain ⟨i0, hi, hz0, hz1, hz2⟩ := info_parts info_A
       by_cases h7 : k < 7
       · have hown1 : Hid ((wc.setCell ⟨b4, 7, none⟩ (.int .i64 k)).ownsRow w.heap.size 124 12 (.slice va1 k va2) k (atomsV k ss)) := ownSetOther (ownBelow HT2.out HBW.out) (own_old HT2.out HB4.out)
         go_wp2_with (at_builtin; refine wpList_append_own _ rfl _ _ 86 rfl w.heap.size 124 i0 _ 12 152 Tryd.underlying86 hi hz0 hz1 hz2 rfl (by decide) _ k _ rfl (hown1.out.alloc _) ⟨wc.heap.size, 0, none⟩ 1 1 (atomArr k k (.slice a3 n3 c3)).toList rfl rfl ?_ (atomArr_one _ _ _ _ _) ?_ ?_ ?_ ?_)
         · intro j u hu
           exact cellNew2 (by simp) (by exact hu)
         · unfold maxLen; omega
         · omega
         · simp; have := HT6.out.size; have := HBW.out.size; omega
         · intro v' w5 hown' hgrow hnil
           obtain ⟨x1, x2, rfl⟩ := slice_of hown'
           have hwA : Below wr.heap.size wr (((wc.setCell ⟨b4, 7, none⟩ (.int .i64 k))).alloc (.cells (atomArr k k (.slice a3 n3 c3)) 124)) := (HBW.out.setCell (p := ⟨b4, 7, none⟩) HB4.out _).alloc (by simp; exact HBW.out.size) _
           have hb1 : w5.heap[w1.heap.size]? = some (.cells #[.slice va1 k va2, .slice (some ⟨g, 0, none⟩) 20 m] 89 (0, 0)) := by
             have l1 := (Array.getElem?_eq_some_iff.1 HT1.out).1
             have a1 := (hwA.block _ l1).trans HT1.out
             have n1 := own_ne (ownBelow HT2.out hwA) a1 (by decide)
             exact (hgrow.block _ (Nat.lt_of_lt_of_le l1 hwA.size) (by rcases n1 with h | h; (rw [h]; simp); exact fun e => h e.symm)).trans a1
           have hnext := TLoop_next HT1.out HT2.out HT3.out HT4.out HT5.out HT6.out HT7.out hB1 hwA (s := .slice a3 n3 c3) ((HTM.out.kept (grownBy_setCell wc ⟨b4, 7, none⟩ (.int .i64 k)) (own_ne HTM.out.own HH4.out (by decide))).alloc _) hgrow (by rw [atomV_at _ k hlt k (by unfold baseAt; rw [if_pos h7])]; exact hown')
           have z0 : w5.cell? ⟨w1.heap.size, 0, none⟩ = some (.slice va1 k va2) := by simp [World.cell?, hb1]
           have z1 : w5.frozen? ⟨w1.heap.size, 0, none⟩ = false := by simp [World.frozen?, hb1]
           have HN := Lib.hid hnext
           clear hnext hb1 hgrow hown' hnil hwA
           go_wp2
           go_roundw
           case rel => exact ⟨k + 1, by omega, by go_num, HN.out⟩
           case measure => simp [intOf]; omega
       · have hown1 : Hid (wc.ownsRow w.heap.size 124 12 (.slice va1 k va2) k (atomsV k ss)) := ownBelow HT2.out HBW.out
         go_wp2_with (at_builtin; refine wpList_append_own _ rfl _ _ 86 rfl w.heap.size 124 i0 _ 12 152 Tryd.underlying86 hi hz0 hz1 hz2 rfl (by decide) _ k _ rfl (hown1.out.alloc _) ⟨wc.heap.size, 0, none⟩ 1 1 (atomArr k (-1) (.slice a3 n3 c3)).toList rfl rfl ?_ (atomArr_one _ _ _ _ _) ?_ ?_ ?_ ?_)
         · intro j u hu
           exact cellNew2 rfl (by exact hu)
         · unfold maxLen; omega
         · omega
         · simp; have := HT6.out.size; have := HBW.out.size; omega
         · intro v' w5 hown' hgrow hnil
           obtain ⟨x1, x2, rfl⟩ := slice_of hown'
           have hwA : Below wr.heap.size wr (wc.alloc (.cells (atomArr k (-1) (.slice a3 n3 c3)) 124)) := HBW.out.alloc HBW.out.size _
           have hb1 : w5.heap[w1.heap.size]? = some (.cells #[.slice va1 k va2, .slice (some ⟨g, 0, none⟩) 20 m] 89 (0, 0)) := by
             have l1 := (Array.getElem?_eq_some_iff.1 HT1.out).1
             have a1 := (hwA.block _ l1).trans HT1.out
             have n1 := own_ne (ownBelow HT2.out hwA) a1 (by decide)
             exact (hgrow.block _ (Nat.lt_of_lt_of_le l1 hwA.size) (by rcases n1 with h | h; (rw [h]; simp); exact fun e => h e.symm)).trans a1
           have hnext := TLoop_next HT1.out HT2.out HT3.out HT4.out HT5.out HT6.out HT7.out hB1 hwA (s := .slice a3 n3 c3) (HTM.out.alloc _) hgrow (by rw [atomV_at _ k hlt (-1) (by unfold baseAt; rw [if_neg h7])]; exact hown')
           have z0 : w5.cell? ⟨w1.heap.size, 0, none⟩ = some (.slice va1 k va2) := by simp [World.cell?, hb1]
           have z1 : w5.frozen? ⟨w1.heap.size, 0, none⟩ = false := by simp [World.frozen?, hb1]
           have HN := Lib.hid hnext
           clear hnext hb1 hgrow hown' hnil hwA
           go_wp2
           go_roundw
           case rel => exact ⟨k + 1, by omega, by go_num, HN.out⟩
           case measure => simp [intOf]; omega
    · obtain rfl : k = 48 := by omega
      obtain ⟨va, ss, ht1, ht2, ht3, ht4, ht5, ht6, ht7⟩ := hT
      obtain ⟨va1, va2, rfl⟩ := slice_of ht2
      have hc0 : wr.cell? ⟨w1.heap.size, 0, none⟩ = some (.slice va1 48 va2) := by simp [World.cell?, ht1]
      have hc1 : wr.cell? ⟨w1.heap.size, 1, none⟩ = some (.slice (some ⟨g, 0, none⟩) 20 m) := by simp [World.cell?, ht1]
      have HT1 := Lib.hid ht1
      have HT2 := Lib.hid ht2; have HT3 := Lib.hid ht3; have HT4 := Lib.hid ht4; have HT5 := Lib.hid ht5; have HT6 := Lib.hid ht6; have HT7 := Lib.hid ht7
      clear ht1 ht2 ht3 ht4 ht5 ht6
      have hr0 : wr.cell? ⟨w.heap.size, 0, none⟩ = some (.slice none 0 0) := by simp [World.cell?, ht7]
      have hr1 : wr.cell? ⟨w.heap.size, 1, none⟩ = some (.slice none 0 0) := by simp [World.cell?, ht7]
      have hrf0 : wr.frozen? ⟨w.heap.size, 0, none⟩ = false := by simp [World.frozen?, ht7]
      have hrf1 : wr.frozen? ⟨w.heap.size, 1, none⟩ = false := by simp [World.frozen?, ht7]
      have HT7 := ht7
      clear ht7
      replace HT7 := Lib.hid HT7
      go_wp2_with fail
      have hend := table_end HT2.out HT3.out HT4.out HT6.out HT7.out (.slice va1 48 va2) (.slice (some ⟨g, 0, none⟩) 20 m)
      exact bodyPost_ret (v := .agg #[.slice va1 48 va2, .slice (some ⟨g, 0, none⟩) 20 m]) (by simp [results, Tryd.results66, go_sem, hr0, hr1]) rfl ⟨⟨_, _, ss, rfl, hend.1⟩, hend.2⟩
end Go.Proofs.YtaakaajcpjiccaaDoor
