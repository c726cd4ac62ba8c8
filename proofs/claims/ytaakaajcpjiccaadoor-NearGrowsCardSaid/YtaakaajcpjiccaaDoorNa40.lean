/-
  What a walk over a trie tells.
-/
import Derived.Test.YtaakaajcpjiccaaDoorNa33
import Derived.Test.YtaakaajcpjiccaaDoorNa37
set_option linter.unusedVariables false
set_option linter.unusedSimpArgs false
namespace Go.Proofs.YtaakaajcpjiccaaDoor
open Go.RowKit
open Go.Proofs

theorem leastN_ge {xs : List Nat} {m : Nat} (h0 : xs ≠ []) (h : ∀ x ∈ xs, m ≤ x) : m ≤ leastN xs := by
  have hf : ∀ (l : List Nat) (a : Nat), m ≤ a → (∀ x ∈ l, m ≤ x) → m ≤ l.foldl min a := by
    intro l
    induction l with
    | nil => intro a ha _; exact ha
    | cons b l ih => intro a ha hl; exact ih (min a b) (by have := hl b (by simp); omega) (fun x hx => hl x (by simp [hx]))
  cases xs with
  | nil => exact (h0 rfl).elim
  | cons a l => exact hf l a (h a (by simp)) (fun x hx => h x (by simp [hx]))
theorem leastN_mem {xs : List Nat} {x : Nat} (h : x ∈ xs) : leastN xs ≤ x := by
  cases xs with
  | nil => cases h
  | cons a l =>
    unfold leastN
    simp only [List.tail_cons, List.headD_cons]
    have hf : ∀ (l : List Nat) (a : Nat), l.foldl min a ≤ a ∧ ∀ x ∈ l, l.foldl min a ≤ x := by
      intro l
      induction l with
      | nil => intro a; exact ⟨Nat.le_refl _, fun x hx => by cases hx⟩
      | cons b l ih =>
        intro a
        have h1 := ih (min a b)
        refine ⟨by have := h1.1; simp only [List.foldl_cons]; omega, fun x hx => ?_⟩
        simp only [List.foldl_cons]
        rcases List.mem_cons.1 hx with rfl | hx
        · have := h1.1; omega
        · exact h1.2 x hx
    rcases List.mem_cons.1 h with rfl | h
    · exact (hf l x).1
    · exact (hf l a).2 x h
theorem drop_take (w : List UInt8) (j : Nat) (h : j ≤ w.length) : w.reverse.drop j = (w.take (w.length - j)).reverse := by
  rw [List.drop_reverse]
/-- No row behind is less than the least of a row. -/
theorem levR_behind2 (w t : List UInt8) (m : Nat) (h : m ≤ leastN (rowR w t)) : ∀ (q : List UInt8), ∀ j, j ≤ w.reverse.length → m ≤ levR (w.reverse.drop j) (q ++ t)
  | [], j, hj => by
    rw [List.length_reverse] at hj
    rw [drop_take w j hj, List.nil_append]
    refine Nat.le_trans h (leastN_mem ?_)
    unfold rowR
    rw [List.mem_map]
    exact ⟨w.length - j, by rw [List.mem_range]; omega, rfl⟩
  | c :: q, j, hj => by
    rw [List.cons_append]
    refine levR_grow c (q ++ t) m _ (fun i hi => ?_)
    rw [List.drop_drop]
    refine levR_behind2 w t m h q (j + i) ?_
    rw [List.length_drop] at hi
    omega
theorem mem_walkL (T : List NodeD) (hWF : WfT T) (w : List UInt8) (k : Int) : ∀ (f i : Nat) (t : List UInt8), i < T.length → T.length ≤ f + i → ∀ n d, (n, d) ∈ walkL T w k f i t ↔ ∃ q j, reachT T i q = some j ∧ wordF T j = some n ∧ d = levR w.reverse (q.reverse ++ t) ∧ (d : Int) ≤ k
  | 0, i, t, h1, h2, n, d => by omega
  | f + 1, i, t, h1, h2, n, d => by
    rw [walkL_succ, List.mem_append, List.mem_flatMap]
    constructor
    · rintro (h | ⟨c, hc, h⟩)
      · unfold hereL at h
        cases hw : (T[i]?.getD default).word with
        | none => rw [hw] at h; cases h
        | some m =>
          rw [hw] at h
          simp only at h
          split at h
          · rename_i hk
            simp only [List.mem_singleton, Prod.mk.injEq] at h
            obtain ⟨rfl, rfl⟩ := h
            exact ⟨[], i, rfl, hw, rfl, hk⟩
          · cases h
      · have hcs := (mem_keysS _ c).1 hc
        obtain ⟨ch, hch⟩ := Option.isSome_iff_exists.1 hcs
        have hcf : childF T i c = some ch := hch
        have hl := hWF.2.1 i c ch hcf
        unfold downL at h
        split at h
        · cases h
        · rw [hcf] at h
          obtain ⟨q, j, h3, h4, h5, h6⟩ := (mem_walkL T hWF w k f ch (c :: t) hl.2 (by omega) n d).1 h
          exact ⟨c :: q, j, by simp only [reachT, hcf]; exact h3, h4, by rw [h5]; simp, h6⟩
    · rintro ⟨q, j, h3, h4, h5, h6⟩
      cases q with
      | nil =>
        left
        cases h3
        unfold hereL
        unfold wordF at h4
        rw [h4]
        simp only [List.reverse_nil, List.nil_append] at h5
        subst h5
        simp only
        rw [if_pos h6]
        simp
      | cons c q =>
        right
        simp only [reachT] at h3
        cases hcf : childF T i c with
        | none => rw [hcf] at h3; cases h3
        | some ch =>
          rw [hcf] at h3
          have hl := hWF.2.1 i c ch hcf
          refine ⟨c, (mem_keysS _ c).2 (by have : (childF T i c).isSome = true := by rw [hcf]; rfl
                                           exact this), ?_⟩
          have hd : d = levR w.reverse (q.reverse ++ (c :: t)) := by rw [h5]; simp
          unfold downL
          have hle := levR_behind2 w (c :: t) (leastN (rowR w (c :: t))) (Nat.le_refl _) q.reverse 0 (Nat.zero_le _)
          rw [List.drop_zero, ← hd] at hle
          rw [if_neg (by omega), hcf]
          exact (mem_walkL T hWF w k f ch (c :: t) hl.2 (by omega) n d).2 ⟨q, j, h3, h4, hd, h6⟩
/-- The word of a number. -/
def keyW (L : List ByteArray) (n : Nat) : List UInt8 := (L[n]?.getD ⟨#[]⟩).toList
theorem firstK_some {L : List ByteArray} {k : Nat} {p : List UInt8} {n : Nat} (h : firstK L k p = some n) : n < k ∧ keyW L n = p ∧ ∀ m, m < n → keyW L m ≠ p := by
  unfold firstK at h
  have h1 := List.find?_some h
  have h2 := List.mem_of_find?_eq_some h
  rw [List.mem_range] at h2
  refine ⟨h2, by simpa [keyW] using h1, fun m hm e => ?_⟩
  rw [List.find?_range_eq_some] at h
  have := h.2.2 m hm
  simp only [Bool.not_eq_true', beq_eq_false_iff_ne] at this
  exact this e
theorem firstK_first {L : List ByteArray} {k n : Nat} {p : List UInt8} (hn : n < k) (hp : keyW L n = p) (h : ∀ m, m < n → keyW L m ≠ p) : firstK L k p = some n := by
  unfold firstK
  rw [List.find?_range_eq_some]
  exact ⟨by simpa [keyW] using hp, List.mem_range.2 hn, fun m hm => by
    simp only [Bool.not_eq_true', beq_eq_false_iff_ne]
    exact h m hm⟩
/-- The words of a list within a distance: those that are told, each by its first place. -/
theorem mem_walk (L : List ByteArray) (m : Nat) (hL : ∀ s ∈ L, s.size ≤ m) (w : List UInt8) (k : Int) (n d : Nat) :
    (n, d) ∈ walkL (buildT L) w k (buildT L).length 0 [] ↔ firstK L L.length (keyW L n) = some n ∧ d = dist w (keyW L n) ∧ (d : Int) ≤ k := by
  have hwf := (wf_build L m hL L.length).1
  obtain ⟨hpar, hat⟩ := build_at L m hL L.length
  rw [mem_walkL (buildT L) hwf w k _ 0 [] hwf.1 (by omega)]
  constructor
  · rintro ⟨q, j, h1, h2, h3, h4⟩
    have h5 : firstK L L.length q = some n := by
      rw [← hat q]
      unfold wordAt
      rw [show reachT (buildK L L.length) 0 q = some j from h1]
      exact h2
    have h6 := (firstK_some h5).2.1
    rw [h6]
    exact ⟨h5, by rw [h3, List.append_nil]; rfl, h4⟩
  · rintro ⟨h1, h2, h3⟩
    rw [← hat (keyW L n)] at h1
    unfold wordAt at h1
    cases hr : reachT (buildK L L.length) 0 (keyW L n) with
    | none => rw [hr] at h1; cases h1
    | some j =>
      rw [hr] at h1
      exact ⟨keyW L n, j, hr, h1, by rw [h2, List.append_nil]; rfl, h3⟩
end Go.Proofs.YtaakaajcpjiccaaDoor
