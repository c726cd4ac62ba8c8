/-
  A walk over a trie tells words by their bytes; near symbols, sorted.
-/
import Derived.Test.YtaakaajcpjiccaaDoorNa39
import Derived.Test.YtaakaajcpjiccaaDoorNa40
set_option linter.unusedVariables false
set_option linter.unusedSimpArgs false
namespace Go.Proofs.YtaakaajcpjiccaaDoor
open Go.RowKit
open Go.Proofs

theorem lt_prefix (p : List UInt8) (c : UInt8) (q : List UInt8) : p < p ++ c :: q := by
  induction p with
  | nil => exact List.Lex.nil
  | cons a p ih => rw [List.cons_append, List.cons_lt_cons_iff]; exact .inr ⟨rfl, ih⟩
theorem lt_fork (p : List UInt8) {c d : UInt8} (h : c.toNat < d.toNat) (q r : List UInt8) : p ++ c :: q < p ++ d :: r := by
  induction p with
  | nil => rw [List.nil_append, List.nil_append, List.cons_lt_cons_iff]; exact .inl (by rw [UInt8.lt_iff_toNat_lt]; exact h)
  | cons a p ih => rw [List.cons_append, List.cons_append, List.cons_lt_cons_iff]; exact .inr ⟨rfl, ih⟩
theorem walk_sorted (T : List NodeD) (hWF : WfT T) (key : Nat → List UInt8) (hkey : ∀ q j n, reachT T 0 q = some j → wordF T j = some n → key n = q) (w : List UInt8) (k : Int) :
    ∀ (f i : Nat) (t : List UInt8), i < T.length → T.length ≤ f + i → reachT T 0 t.reverse = some i → (walkL T w k f i t).Pairwise fun a b => key a.1 < key b.1
  | 0, i, t, h1, h2, h3 => by omega
  | f + 1, i, t, h1, h2, h3 => by
    have hmem : ∀ (g : Nat) (m : Nat) (u : List UInt8), m < T.length → T.length ≤ g + m → reachT T 0 u.reverse = some m → ∀ x ∈ walkL T w k g m u, ∃ q, key x.1 = u.reverse ++ q := by
      intro g m u hm hg hr x hx
      obtain ⟨n, d⟩ := x
      obtain ⟨q, j, e1, e2, -, -⟩ := (mem_walkL T hWF w k g m u hm hg n d).1 hx
      exact ⟨q, hkey _ j n (by rw [reach_append, hr]; exact e1) e2⟩
    have hdown : ∀ c ∈ keysS (T[i]?.getD default).kids, ∀ x ∈ downL T w k f i t c, ∃ q, key x.1 = t.reverse ++ c :: q := by
      intro c hc x hx
      obtain ⟨ch, hch⟩ := Option.isSome_iff_exists.1 ((mem_keysS _ c).1 hc)
      have hcf : childF T i c = some ch := hch
      have hl := hWF.2.1 i c ch hcf
      unfold downL at hx
      split at hx
      · cases hx
      · rw [hcf] at hx
        obtain ⟨q, e⟩ := hmem f ch (c :: t) hl.2 (by omega) (by rw [List.reverse_cons, reach_snoc, h3]; exact hcf) x hx
        exact ⟨q, by rw [e]; simp⟩
    have hhere : ∀ x ∈ hereL T w k i t, key x.1 = t.reverse := by
      intro x hx
      unfold hereL at hx
      cases hw : (T[i]?.getD default).word with
      | none => rw [hw] at hx; cases hx
      | some m =>
        rw [hw] at hx
        simp only at hx
        split at hx
        · simp only [List.mem_singleton] at hx
          subst hx
          exact hkey _ i m h3 hw
        · cases hx
    rw [walkL_succ, List.pairwise_append]
    refine ⟨?_, ?_, ?_⟩
    · unfold hereL
      split
      · split <;> simp
      · simp
    · rw [List.pairwise_flatMap]
      refine ⟨fun c hc => ?_, (keysS_sorted _).imp_of_mem fun {c d} hc hd hcd x hx y hy => ?_⟩
      · obtain ⟨ch, hch⟩ := Option.isSome_iff_exists.1 ((mem_keysS _ c).1 hc)
        have hcf : childF T i c = some ch := hch
        have hl := hWF.2.1 i c ch hcf
        unfold downL
        split
        · exact List.Pairwise.nil
        · rw [hcf]
          exact walk_sorted T hWF key hkey w k f ch (c :: t) hl.2 (by omega) (by rw [List.reverse_cons, reach_snoc, h3]; exact hcf)
      · obtain ⟨q, e1⟩ := hdown c hc x hx
        obtain ⟨r, e2⟩ := hdown d hd y hy
        rw [e1, e2]
        exact lt_fork _ hcd q r
    · intro x hx y hy
      rw [List.mem_flatMap] at hy
      obtain ⟨c, hc, hy⟩ := hy
      obtain ⟨q, e⟩ := hdown c hc y hy
      rw [hhere x hx, e]
      exact lt_prefix _ c q
/-- All that a list's trie tells of a word. -/
def tellL (L : List ByteArray) (w : List UInt8) (k : Int) : List (Nat × Nat) := walkL (buildT L) w k (buildT L).length 0 []
theorem tell_sorted (L : List ByteArray) (m : Nat) (hL : ∀ s ∈ L, s.size ≤ m) (w : List UInt8) (k : Int) : (tellL L w k).Pairwise fun a b => keyW L a.1 < keyW L b.1 := by
  have hwf := (wf_build L m hL L.length).1
  obtain ⟨hpar, hat⟩ := build_at L m hL L.length
  refine walk_sorted (buildT L) hwf (keyW L) (fun q j n h1 h2 => ?_) w k _ 0 [] hwf.1 (by omega) rfl
  have h5 : firstK L L.length q = some n := by
    rw [← hat q]
    unfold wordAt
    rw [show reachT (buildK L L.length) 0 q = some j from h1]
    exact h2
  exact (firstK_some h5).2.1
theorem tell_nodup (L : List ByteArray) (m : Nat) (hL : ∀ s ∈ L, s.size ≤ m) (w : List UInt8) (k : Int) : (tellL L w k).Nodup :=
  (tell_sorted L m hL w k).imp fun {a b} h e => by subst e; exact List.lt_irrefl _ h
/-! The near symbols. -/
def nearOf (R : List ByteArray) (x : Nat × Nat) : NearD := (atR R x.1, x.2, x.1)
theorem mem_nearL (R : List ByteArray) (s : ByteArray) (k : Nat) (x : NearD) : x ∈ nearL R s k ↔ x.2.2 < R.length ∧ x = (atR R x.2.2, dstR R s x.2.2, x.2.2) ∧ x.2.1 ≤ k := by
  unfold nearL nearQ
  simp only [List.mem_flatMap, List.mem_range, List.mem_map, List.mem_filter, beq_iff_eq]
  constructor
  · rintro ⟨e, he, i, ⟨hi, hd⟩, rfl⟩
    exact ⟨hi, by rw [hd], by show e ≤ k; omega⟩
  · rintro ⟨h1, h2, h3⟩
    have h4 : x.2.1 = dstR R s x.2.2 := by rw [h2]
    exact ⟨x.2.1, by omega, x.2.2, ⟨h1, h4.symm⟩, by rw [h4]; exact h2.symm⟩
theorem nearL_sorted (R : List ByteArray) (s : ByteArray) (k : Nat) : (nearL R s k).Pairwise fun x y => ltN x y = true := by
  unfold nearL
  rw [List.pairwise_flatMap]
  refine ⟨fun e _ => ?_, (List.pairwise_lt_range (n := k + 1)).imp fun {a b} hab x hx y hy => ?_⟩
  · unfold nearQ
    refine List.pairwise_map.2 ((List.Pairwise.filter _ (List.pairwise_lt_range (n := R.length))).imp fun {a b} hab => ?_)
    exact decide_eq_true (.inr ⟨rfl, hab⟩)
  · unfold nearQ at hx hy
    rw [List.mem_map] at hx hy
    obtain ⟨i, _, rfl⟩ := hx
    obtain ⟨j, _, rfl⟩ := hy
    exact decide_eq_true (.inl hab)
theorem keyW_atR (R : List ByteArray) (n : Nat) : keyW R n = (atR R n).toList := rfl
theorem keys_inj {R : List ByteArray} (hR : R.Nodup) {i j : Nat} (hi : i < R.length) (hj : j < R.length) (h : keyW R i = keyW R j) : i = j := by
  unfold keyW at h
  rw [List.getElem?_eq_getElem hi, List.getElem?_eq_getElem hj] at h
  simp only [Option.getD_some] at h
  have h2 : R[i] = R[j] := by
    have := congrArg List.toArray h
    rw [ByteArray.toList_eq, ByteArray.toList_eq] at this
    simp only [Array.toArray_toList] at this
    cases hi : R[i]; cases hj : R[j]
    rw [hi, hj] at this
    simpa using this
  exact (List.getElem_inj hR).1 h2
theorem mem_tell {R : List ByteArray} (hR : R.Nodup) (m : Nat) (hL : ∀ s ∈ R, s.size ≤ m) (s : ByteArray) (k : Nat) (x : Nat × Nat) : x ∈ tellL R s.toList (k : Int) ↔ x.1 < R.length ∧ x.2 = dstR R s x.1 ∧ x.2 ≤ k := by
  obtain ⟨n, d⟩ := x
  show (n, d) ∈ walkL _ _ _ _ _ _ ↔ _
  rw [mem_walk R m hL]
  constructor
  · rintro ⟨h1, h2, h3⟩
    exact ⟨(firstK_some h1).1, h2, by show d ≤ k; omega⟩
  · rintro ⟨h1, h2, h3⟩
    refine ⟨firstK_first h1 rfl fun m' hm e => ?_, h2, ?_⟩
    · have h5 : n < R.length := h1
      have := keys_inj hR (i := m') (j := n) (by omega) h5 e
      omega
    · have h5 : d ≤ k := h3
      omega
/-- What is told, sorted, is the document's row. -/
theorem near_plain {R : List ByteArray} (hR : R.Nodup) (m : Nat) (hL : ∀ s ∈ R, s.size ≤ m) (s : ByteArray) (k : Nat) (l : List NearD) (hp : l.Perm ((tellL R s.toList (k : Int)).map (nearOf R))) (hs : l.Pairwise fun x y => ltN y x = false) : l = nearL R s k := by
  have hnd : ((tellL R s.toList (k : Int)).map (nearOf R)).Nodup := by
    refine List.Pairwise.map (nearOf R) (fun a b hab e => hab ?_) (tell_nodup R m hL s.toList k)
    unfold nearOf at e
    simp only [Prod.mk.injEq] at e
    exact Prod.ext e.2.2 e.2.1
  have hnd2 : (nearL R s k).Nodup := (nearL_sorted R s k).imp fun {a b} h e => by subst e; simp [ltN] at h
  have hmem : ∀ x, x ∈ (tellL R s.toList (k : Int)).map (nearOf R) ↔ x ∈ nearL R s k := fun x => by
    rw [List.mem_map, mem_nearL]
    constructor
    · rintro ⟨y, hy, rfl⟩
      have := (mem_tell hR m hL s k y).1 hy
      exact ⟨this.1, by unfold nearOf; rw [this.2.1], this.2.2⟩
    · rintro ⟨h1, h2, h3⟩
      refine ⟨(x.2.2, x.2.1), (mem_tell hR m hL s k _).2 ⟨h1, ?_, h3⟩, ?_⟩
      · show x.2.1 = _
        rw [h2]
      · unfold nearOf
        rw [h2]
  have hperm : l.Perm (nearL R s k) := hp.trans ((List.perm_ext_iff_of_nodup hnd hnd2).2 hmem)
  refine List.Perm.eq_of_pairwise (le := fun a b => ltN b a = false) (fun a b ha hb h1 h2 => ?_) hs ((nearL_sorted R s k).imp fun {a b} h => ?_) hperm
  · have ha2 := (mem_nearL R s k a).1 (hperm.mem_iff.1 ha)
    have hb2 := (mem_nearL R s k b).1 hb
    simp only [ltN, decide_eq_false_iff_not] at h1 h2
    have e : a.2.2 = b.2.2 := by omega
    rw [ha2.2.1, hb2.2.1, e]
  · simp only [ltN, decide_eq_true_eq, decide_eq_false_iff_not] at h ⊢
    omega
end Go.Proofs.YtaakaajcpjiccaaDoor
