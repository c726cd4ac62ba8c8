/-
  NearGrows. NearOwn, in plain words.
-/
import Derived.Deep.RegionHeld3
import Derived.Test.YtaakaajcpjiccaaDoorNa44
import Derived.Test.YtaakaajcpjiccaaDoorNaLmLnLp
set_option linter.unusedVariables false
set_option linter.unusedSimpArgs false
namespace Go.Proofs.YtaakaajcpjiccaaDoor
open Go.RowKit
open Go.Proofs

theorem placeOf_atR {R : List ByteArray} (hR : R.Nodup) {j : Nat} (hj : j < R.length) : placeOf R (atR R j) = some j := by
  unfold placeOf
  rw [List.findIdx?_eq_some_iff_getElem]
  have he : atR R j = R[j] := by unfold atR; rw [List.getElem?_eq_getElem hj]; rfl
  refine ⟨hj, by simp [he], fun i hi => ?_⟩
  simp only [decide_eq_true_eq]
  rw [he]
  intro e
  have := (List.getElem_inj hR).1 e
  omega
/-- What is told of an entry, the one ahead of it known. -/
structure GrowAt (n : Int) (s : ByteArray) (a : Nat) (K : Nat) (B : List NearD) (i : Nat) (x : NearD) : Prop where
  place : rankV n x.1 = .tuple #[.int .i64 (x.2.2 : Int), .bool true]
  far : x.2.1 = dist s.toList x.1.toList
  short : x.1.size ≤ 16
  late : a ≤ i → x.2.1 = K
  ahead : ∀ j (h : j < B.length), j < i → (B[j]).2.1 < x.2.1 ∨ (B[j]).2.1 = x.2.1 ∧ (B[j]).2.2 < x.2.2
theorem near_succ (R : List ByteArray) (s : ByteArray) (k : Nat) : nearL R s (k + 1) = nearL R s k ++ nearQ R s (k + 1) R.length := by
  unfold nearL
  rw [List.range_succ (n := k + 1), List.flatMap_append]
  simp
theorem grow_plain (n : Int) (hn : 1 ≤ n ∧ n ≤ 5) (s : ByteArray) (d : Int) (hd : 0 ≤ d ∧ d < 3) :
    (nearN n s d).length ≤ (nearN n s (d + 1)).length ∧ (nearN n s (d + 1)).take (nearN n s d).length = nearN n s d ∧ ∀ i (h : i < (nearN n s (d + 1)).length), GrowAt n s (nearN n s d).length (d.toNat + 1) (nearN n s (d + 1)) i ((nearN n s (d + 1))[i]) := by
  have e1 : nearN n s d = nearL (rowB n) s d.toNat := by unfold nearN; rw [if_pos ⟨hn, by omega⟩]
  have e2 : nearN n s (d + 1) = nearL (rowB n) s (d.toNat + 1) := by
    unfold nearN
    rw [if_pos ⟨hn, by omega⟩, show (d + 1).toNat = d.toNat + 1 by omega]
  rw [e1, e2]
  generalize d.toNat = K
  have hR := rowB_nodup n
  refine ⟨by rw [near_succ, List.length_append]; omega, by rw [near_succ]; simp, fun i h => ?_⟩
  obtain ⟨h1, h2, h3⟩ := (mem_nearL (rowB n) s (K + 1) _).1 (List.getElem_mem h)
  have hp := nearL_sorted (rowB n) s (K + 1)
  rw [List.pairwise_iff_getElem] at hp
  refine ⟨?_, ?_, ?_, fun hi => ?_, fun j hj hji => ?_⟩
  · rw [h2]
    unfold rankV
    rw [placeOf_atR hR h1]
    rfl
  · rw [h2]; rfl
  · rw [h2]; exact atR_short n _
  · have hl := h
    have : (nearL (rowB n) s (K + 1))[i] ∈ nearQ (rowB n) s (K + 1) (rowB n).length := by
      have he : (nearL (rowB n) s (K + 1))[i] = (nearL (rowB n) s K ++ nearQ (rowB n) s (K + 1) (rowB n).length)[i]'(by rw [← near_succ]; exact h) := by
        congr 1
        exact near_succ _ _ _
      rw [he, List.getElem_append_right hi]
      exact List.getElem_mem _
    unfold nearQ at this
    rw [List.mem_map] at this
    obtain ⟨r, _, e⟩ := this
    rw [← e]
  · have := hp j i hj h hji
    unfold ltN at this
    simpa using this
theorem near_own {w : World} {B : Nat} {v : Value} {l : List NearD} (h : OwnNe w B v l) : (v = .slice none 0 0 ∧ l = []) ∨ ∃ g c, v = .slice (some ⟨g, 0, none⟩) l.length c ∧ l.length ≤ c ∧ NeAt w (some ⟨g, 0, none⟩) l := by
  rcases h.2 with ⟨rfl, hz⟩ | ⟨g, cap, cur, rfl, h1, hgb, h3⟩
  · exact .inl ⟨rfl, List.eq_nil_of_length_eq_zero hz⟩
  · exact .inr ⟨g, cap, rfl, by first | exact hgb | exact h3 | exact h3.1 | omega, .inr ⟨g, rfl, rangeOf h 0 (l.flatMap nearV).length _ (by rw [List.drop_zero, List.take_length])⟩⟩
theorem NeAt.take {w : World} {a : Option Addr} {L : List NearD} (h : NeAt w a L) (k : Nat) (hk : k ≤ L.length) : NeAt w a (L.take k) := by
  rcases h with rfl | ⟨g, e, h⟩
  · exact .inl (by simp)
  · refine .inr ⟨g, e, fun j v hj => h j v ?_⟩
    have : L.flatMap nearV = (L.take k).flatMap nearV ++ (L.drop k).flatMap nearV := by rw [← List.flatMap_append, List.take_append_drop]
    rw [this, List.getElem?_append_left (List.getElem?_eq_some_iff.1 hj).1]
    exact hj
end Go.Proofs.YtaakaajcpjiccaaDoor
namespace Go.Proofs.YtaakaajcpjiccaaDoor
open Go.RowKit
open Go.Proofs

theorem rowB_full (n : Int) : ∀ r ∈ rowB n, 0 < r.size := by
  intro r hr
  unfold rowB symsN at hr
  rw [List.mem_map] at hr
  obtain ⟨x, hx, rfl⟩ := hr
  split at hx
  · obtain ⟨h1, h2, _, _⟩ := symsF_mem hx
    show 0 < x.1.toArray.size
    rw [List.size_toArray, h1]
    unfold toldF at h2
    simp only [Bool.and_eq_true, Bool.not_eq_true'] at h2
    have := h2.1
    cases hl : textF (n.toNat - 1) x.2.1 x.2.2 with
    | nil => rw [hl] at this; cases this
    | cons a l => simp
  · cases hx
theorem atR_mem {R : List ByteArray} {i : Nat} (h : i < R.length) : atR R i ∈ R := by
  unfold atR
  rw [List.getElem?_eq_getElem h]
  exact List.getElem_mem h
theorem list_ext {a b : ByteArray} (h : a.toList = b.toList) : a = b := by
  have := congrArg List.toArray h
  rw [ByteArray.toList_eq, ByteArray.toList_eq] at this
  simp only [Array.toArray_toList] at this
  cases a; cases b; simpa using this
theorem placeOf_some {R : List ByteArray} {s : ByteArray} {j : Nat} (h : placeOf R s = some j) : j < R.length ∧ atR R j = s := by
  unfold placeOf at h
  rw [List.findIdx?_eq_some_iff_getElem] at h
  obtain ⟨hj, he, _⟩ := h
  refine ⟨hj, ?_⟩
  unfold atR
  rw [List.getElem?_eq_getElem hj]
  simpa using he
theorem placeOf_none {R : List ByteArray} {s : ByteArray} (h : placeOf R s = none) : ∀ x ∈ R, x ≠ s := by
  unfold placeOf at h
  rw [List.findIdx?_eq_none_iff] at h
  intro x hx
  have := h x hx
  simpa using this
/-- Within 0 there is just the word itself, if it is a symbol. -/
theorem own_plain (n : Int) (hn : 1 ≤ n ∧ n ≤ 5) (s : ByteArray) :
    (rankV n s = .tuple #[.int .i64 (0 : Nat), .bool false] ∧ nearN n s 0 = []) ∨ ∃ j : Nat, rankV n s = .tuple #[.int .i64 (j : Int), .bool true] ∧ nearN n s 0 = [(s, 0, j)] := by
  have e1 : nearN n s 0 = nearL (rowB n) s 0 := by unfold nearN; rw [if_pos ⟨hn, by omega⟩]; rfl
  rw [e1]
  have hR := rowB_nodup n
  have hmem : ∀ x, x ∈ nearL (rowB n) s 0 → x.2.2 < (rowB n).length ∧ atR (rowB n) x.2.2 = s ∧ x = (s, 0, x.2.2) := by
    intro x hx
    obtain ⟨h1, h2, h3⟩ := (mem_nearL (rowB n) s 0 x).1 hx
    have h4 : dstR (rowB n) s x.2.2 = 0 := by
      have : x.2.1 = dstR (rowB n) s x.2.2 := by rw [h2]
      omega
    have h5 : s = atR (rowB n) x.2.2 := list_ext (dist_zero h4)
    exact ⟨h1, h5.symm, by rw [h4, ← h5] at h2; exact h2⟩
  cases hp : placeOf (rowB n) s with
  | none =>
    left
    refine ⟨by unfold rankV; rw [hp]; rfl, List.eq_nil_iff_forall_not_mem.2 fun x hx => ?_⟩
    obtain ⟨h1, h2, _⟩ := hmem x hx
    exact placeOf_none hp _ (atR_mem h1) h2
  | some j =>
    right
    obtain ⟨hj, he⟩ := placeOf_some hp
    refine ⟨j, by unfold rankV; rw [hp]; rfl, ?_⟩
    have hin : (s, 0, j) ∈ nearL (rowB n) s 0 := by
      refine (mem_nearL (rowB n) s 0 _).2 ⟨hj, ?_, Nat.le_refl _⟩
      show (s, 0, j) = (atR (rowB n) j, dstR (rowB n) s j, j)
      unfold dstR
      rw [he, dist_same]
    have hall : ∀ x, x ∈ nearL (rowB n) s 0 → x = (s, 0, j) := by
      intro x hx
      obtain ⟨h1, h2, h3⟩ := hmem x hx
      have : x.2.2 = j := keys_inj hR h1 hj (by rw [keyW_atR, keyW_atR, h2, he])
      rw [h3, this]
    have hs := nearL_sorted (rowB n) s 0
    match hl : nearL (rowB n) s 0 with
    | [] => rw [hl] at hin; cases hin
    | [a] => rw [hall a (by rw [hl]; simp)]
    | a :: b :: l =>
      exfalso
      rw [hl] at hs
      have h1 := hall a (by rw [hl]; simp)
      have h2 := hall b (by rw [hl]; simp)
      have := (List.pairwise_cons.1 hs).1 b (by simp)
      rw [h1, h2] at this
      simp [ltN] at this
/-- A symbol within 1 of a text is among those told. -/
theorem found_plain (n : Int) (hn : 1 ≤ n ∧ n ≤ 5) (i : Nat) (hi : i < (rowB n).length) (t : ByteArray) (h : dist t.toList (atR (rowB n) i).toList ≤ 1) : (nearN n t 1).any (fun x => decide (x.1 = atR (rowB n) i)) = true := by
  have e1 : nearN n t 1 = nearL (rowB n) t 1 := by unfold nearN; rw [if_pos ⟨hn, by omega⟩]; rfl
  rw [e1, List.any_eq_true]
  exact ⟨_, (mem_nearL (rowB n) t 1 (atR (rowB n) i, dstR (rowB n) t i, i)).2 ⟨hi, rfl, h⟩, by simp⟩
/-- The three steps, at a place of a text. -/
theorem steps_plain (s : ByteArray) (k : Nat) (hk : k < s.size) (c : UInt8) :
    dist (s.toList.take k ++ c :: s.toList.drop (k + 1)) s.toList ≤ 1 ∧ dist (s.toList.take k ++ s.toList.drop (k + 1)) s.toList ≤ 1 ∧ dist (s.toList.take k ++ c :: s.toList.drop k) s.toList ≤ 1 := by
  have hl : k < s.toList.length := by rw [ByteArray.toList_eq]; simpa using hk
  have e : s.toList = s.toList.take k ++ s.toList[k] :: s.toList.drop (k + 1) := by
    rw [← List.drop_eq_getElem_cons hl, List.take_append_drop]
  refine ⟨?_, ?_, ?_⟩
  · conv => lhs; arg 2; rw [e]
    exact dist_change _ _ _ _
  · conv => lhs; arg 2; rw [e]
    exact dist_gone _ _ _
  · have h := dist_come (s.toList.take k) (s.toList.drop k) c
    rw [List.take_append_drop] at h
    exact h
end Go.Proofs.YtaakaajcpjiccaaDoor
