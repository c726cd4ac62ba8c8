/-
  The table: how its cells read.
-/
import Derived.Test.YtiinppicdhidhaaDoorTb
set_option linter.unusedVariables false
set_option linter.unusedSimpArgs false
namespace Go.Proofs.YtiinppicdhidhaaDoor
open Go.RowKit
open Go.Proofs

/-! A row's cells where the table lies. -/
theorem atomV_length (s : Value) (i : Nat) (hi : i < 48) : (atomV s i).length = 12 := by rw [atomV_at s i hi _ rfl]; rfl
theorem atomsV_drop (ss : Nat → Value) : ∀ n, n ≤ 48 → ∀ i, i < n → ((atomsV n ss).drop (i * 12)).take 12 = atomV (ss i) i := by
  intro n
  induction n with
  | zero => intro _ i hi; omega
  | succ n ih =>
    intro hn i hi
    have hl : ∀ m, m ≤ 48 → (atomsV m ss).length = m * 12 := by
      intro m
      induction m with
      | zero => intro _; rfl
      | succ m ihm =>
        intro hm
        have e : atomsV (m + 1) ss = atomsV m ss ++ atomV (ss m) m := by simp [atomsV, List.range_succ]
        rw [e, List.length_append, ihm (by omega), atomV_length _ _ (by omega)]
        omega
    have e : atomsV (n + 1) ss = atomsV n ss ++ atomV (ss n) n := by simp [atomsV, List.range_succ]
    rw [e]
    by_cases h : i = n
    · subst h
      rw [List.drop_left' (hl i (by omega))]
      exact List.take_of_length_le (by rw [atomV_length _ _ (by omega)]; omega)
    · have hi' : i < n := by omega
      have h1 := hl n (by omega)
      rw [List.drop_append_of_le_length (by omega), List.take_append_of_le_length (by rw [List.length_drop]; omega)]
      exact ih (by omega) i hi'
theorem rangeOf {w : World} {B e z n g cap : Nat} {xs : List Value} (h : w.ownsRow B e z (.slice (some ⟨g, 0, none⟩) n cap) n xs) (o k : Nat) (cs : List Value) (hc : (xs.drop o).take k = cs) : w.rangeAt g o cs := by
  intro j v hj
  subst hc
  have h2 := h.cells (g := g) rfl (o + j) v
  rw [addPlain] at h2
  apply h2
  rw [List.getElem?_take] at hj
  split at hj
  · rw [List.getElem?_drop] at hj; exact hj
  · simp at hj
theorem size_A : (Tryd.prog.info? 33).map (·.size) = some 12 := by kernel_rfl
theorem size_P : (Tryd.prog.info? 35).map (·.size) = some 6 := by kernel_rfl
def atomList (k : Nat) (b : Int) (s : Value) : List Value := [.string ⟨(codeAt k 0).toArray⟩, .string ⟨(codeAt k 1).toArray⟩, .string ⟨(codeAt k 2).toArray⟩, .string ⟨(codeAt k 3).toArray⟩, .string ⟨(codeAt k 4).toArray⟩, .bool (rowAt k).metric, .int .i64 (rowAt k).tag, .int .i64 b, .int .i64 (rowAt k).num, .int .i64 (rowAt k).den, .int .i64 (rowAt k).ten, s]
theorem atom_range {w : World} {B g cap : Nat} {ss : Nat → Value} (h : w.ownsRow B 33 12 (.slice (some ⟨g, 0, none⟩) 48 cap) 48 (atomsV 48 ss)) (i : Nat) (hi : i < 48) :
    w.rangeAt g (i * 12) (atomList i (baseAt i) (ss i)) := by
  have hr := rangeOf h (i * 12) 12 _ (atomsV_drop ss 48 (Nat.le_refl _) i hi)
  rw [atomV_at _ i hi _ rfl] at hr
  exact hr
theorem form_of {w : World} {B e z n : Nat} {v : Value} {xs : List Value} (h : w.ownsRow B e z v n xs) (hn : 0 < n) : ∃ g cap, v = .slice (some ⟨g, 0, none⟩) n cap := by
  rcases h.2 with ⟨rfl, h0⟩ | ⟨g, cap, cur, rfl, _⟩
  · omega
  · exact ⟨g, cap, rfl⟩
/-! Prefixes. -/
theorem flat_drop {α : Type} (f : α → List Value) (k : Nat) : ∀ (l : List α), (∀ a ∈ l, (f a).length = k) → ∀ i (h : i < l.length), ((l.flatMap f).drop (i * k)).take k = f l[i]
  | [], _, i, h => by simp at h
  | a :: l, hf, 0, _ => by
    have := hf a (by simp)
    simp only [List.flatMap_cons, Nat.zero_mul, List.drop_zero, List.getElem_cons_zero]
    rw [← this, List.take_left']
    rfl
  | a :: l, hf, i + 1, h => by
    have ha := hf a (by simp)
    simp only [List.flatMap_cons, List.getElem_cons_succ]
    rw [show (i + 1) * k = k + i * k by rw [Nat.add_mul]; omega, ← List.drop_drop, List.drop_left' ha]
    exact flat_drop f k l (fun x hx => hf x (by simp [hx])) i (by simpa using h)
def preAt (i : Nat) : PreD := tabPres.getD i default
def preCodeAt (i n : Nat) : List UInt8 := (preAt i).codes.getD n []
theorem pres_codes : ∀ p ∈ tabPres, p.codes.length = 5 := by decide
theorem preAt_mem (k : Nat) (hk : k < 20) : preAt k ∈ tabPres := by
  have : k < tabPres.length := by simpa [tabPres] using hk
  simp only [preAt, List.getD_eq_getElem?_getD, List.getElem?_eq_getElem this, Option.getD_some]
  exact List.getElem_mem _
def preList (k : Nat) : List Value := [.string ⟨(preCodeAt k 0).toArray⟩, .string ⟨(preCodeAt k 1).toArray⟩, .string ⟨(preCodeAt k 2).toArray⟩, .string ⟨(preCodeAt k 3).toArray⟩, .string ⟨(preCodeAt k 4).toArray⟩, .int .i64 (preAt k).ten]
theorem preV_list (k : Nat) (hk : k < 20) : preV (preAt k) = preList k := by
  have h := pres_codes _ (preAt_mem k hk)
  unfold preV preList preCodeAt
  match hc : (preAt k).codes, h with
  | [a, b, c, d, e], _ => rfl
theorem pre_range {w : World} {B g cap : Nat} (h : w.ownsRow B 35 6 (.slice (some ⟨g, 0, none⟩) 20 cap) 20 (presV tabPres)) (i : Nat) (hi : i < 20) : w.rangeAt g (i * 6) (preList i) := by
  refine rangeOf h (i * 6) 6 _ ?_
  have hl : i < tabPres.length := by simpa [tabPres] using hi
  rw [← preV_list i hi]
  unfold presV
  rw [flat_drop preV 6 tabPres (fun p hp => by simp [preV, pres_codes p hp]) i hl]
  simp [preAt, List.getD_eq_getElem?_getD, hl]
def TableOk (w : World) (e : Ending) (w' : World) : Prop := ∃ a1 c1 a2 c2 ss, e = .returned (.agg #[.slice a1 48 c1, .slice a2 20 c2]) ∧ TableAt w.heap.size w' (.slice a1 48 c1) (.slice a2 20 c2) ss ∧ Below w.heap.size w w'
theorem table_ok (w : World) (hL : Laid w) : Calls Tryd.prog 10 #[] w (TableOk w) := (table_calls w hL).mono fun e w' ⟨⟨va, vp, ss, he, ht⟩, hb⟩ => by
  obtain ⟨a1, c1, rfl⟩ := slice_of ht.atoms
  obtain ⟨a2, c2, rfl⟩ := slice_of ht.pres
  exact ⟨a1, c1, a2, c2, ss, he, ht, hb⟩
theorem TableAt.slices {B : Nat} {w : World} {va vp : Value} {ss : Nat → Value} (h : TableAt B w va vp ss) (i : Nat) (hi : i < 48) : ∃ a l c, ss i = .slice a l c := by
  obtain ⟨a, c, e⟩ := slice_of (h.terms i hi).own
  exact ⟨a, _, c, e⟩
end Go.Proofs.YtiinppicdhidhaaDoor
