/-
  spoilt at any table; the reference's table within bounds.
-/
import Derived.Test.YtiinppicdhidhaaDoorSq
import Derived.Test.YtiinppicdhidhaaDoorAt
set_option linter.unusedVariables false
set_option linter.unusedSimpArgs false
namespace Go.Proofs.YtiinppicdhidhaaDoor
open Go.RowKit
open Go.Proofs

theorem TabK.mono {w : World} {a : Option Addr} {t : List AtomD} {T : Nat → List (Int × Int)} {a2 : Option Addr} {p : List PrefD} {n m k n' m' k' : Nat} (h : TabK w a t T a2 p n m k) (hn : n ≤ n') (hm : m ≤ m') (hk : k ≤ k') : TabK w a t T a2 p n' m' k' :=
  ⟨h.tab, Nat.le_trans h.atoms hn, Nat.le_trans h.prefs hm, fun i hi => Nat.le_trans (h.terms i hi) hk⟩
theorem TabK.below {w w' : World} {a : Option Addr} {t : List AtomD} {T : Nat → List (Int × Int)} {a2 : Option Addr} {p : List PrefD} {n m k : Nat} (h : TabK w a t T a2 p n m k) (hb : Below w.heap.size w w') : TabK w' a t T a2 p n m k :=
  ⟨h.tab.below hb, h.atoms, h.prefs, h.terms⟩
theorem spoilt_any (L P : Nat) (a : Option Addr) (c : Nat) (t : List AtomD) (T : Nat → List (Int × Int)) (a2 : Option Addr) (c2 : Nat) (p : List PrefD) (n m k : Nat) (how at_ nn : Int) (text : ByteArray) (w : World) (hL : t.length = L) (hP : p.length = P) (hT : TabK w a t T a2 p n m k) (hn : n ≤ 1000) (hm : m ≤ 1000) (hk : k ≤ 1000)
    (htx : text.size ≤ maxLen) (hat : -9223372036854775808 ≤ at_ ∧ at_ ≤ 9223372036854775807) (hnn : -9223372036854775808 ≤ nn ∧ nn ≤ 9223372036854775807) :
    Calls Tryd.prog 13 #[.agg #[.slice a L c, .slice a2 P c2], turnV how at_ nn text] w (SpOkA w (n + 120) m (k + 1)) := by
  subst hL
  subst hP
  by_cases h0 : t = [] ∨ p = []
  · exact (spoilt_nil a c t T a2 c2 p n m k how at_ nn text w h0 hT).mono fun e w' ⟨a', c', t', T', a2', c2', p', he, h, hb⟩ => ⟨a', c', t', T', a2', c2', p', he, h.mono (by omega) (Nat.le_refl _) (by omega), hb⟩
  · exact spoilt_yes a c t T a2 c2 p n m k how at_ nn text w (List.length_pos_iff.2 fun e => h0 (.inl e)) (List.length_pos_iff.2 fun e => h0 (.inr e)) hT hn hm hk htx hat hnn
/-- The reference's table. -/
def RefOk (w : World) (e : Ending) (w' : World) : Prop := ∃ g c a2 c2 sr, e = .returned (.agg #[.slice (some ⟨g, 0, none⟩) 48 c, .slice a2 20 c2]) ∧ TabK w' (some ⟨g, 0, none⟩) (tabD sr) tabT a2 presD 48 20 9 ∧ Below w.heap.size w w'
theorem ref_any (w : World) : Calls Tryd.prog 11 #[] w (RefOk w) := (refTable_ok w).mono fun e w' h => by
  obtain ⟨a1, c1, a2, c2, ss, rfl, ht, hb⟩ := h
  obtain ⟨g, cap, hg⟩ := form_of ht.atoms (by omega)
  simp only [Value.slice.injEq] at hg
  obtain ⟨rfl, -, rfl⟩ := hg
  have hr := rangeOf ht.atoms 0 (48 * 12) (atomsL (tabD ss)) (by
    rw [List.drop_zero, tabD_cells ss ht.slices, List.take_of_length_le]
    rw [atomsL_length, tabD_length]
    exact Nat.le_refl _)
  exact ⟨g, c1, a2, c2, ss, rfl, ⟨tab_in0 hr ht, by rw [tabD_length]; exact Nat.le_refl _, by rw [presD_length]; exact Nat.le_refl _, fun i hi => terms_few i (by rw [tabD_length] at hi; exact hi)⟩, hb⟩
/-- A table's data lie in no block that holds two slices. -/
theorem ne_box {W : World} {b off bt : Nat} {cs : List Value} {a1 : Option Addr} {n1 c1 : Nat} {a2 : Option Addr} {n2 c2 : Nat} {ty : TypeId} {fr : Nat × Nat} (h : W.rangeAt b off cs) (hb : W.heap[bt]? = some (.cells #[.slice a1 n1 c1, .slice a2 n2 c2] ty fr)) {v : Value} (hc : cs[0]? = some v) (hv : ∀ a n c, v ≠ .slice a n c) : b ≠ bt := by
  intro e
  subst e
  have h1 := h 0 v hc
  simp only [World.cell?, hb, Nat.add_zero] at h1
  rcases off with _ | _ | off
  · simp at h1; exact hv _ _ _ h1.symm
  · simp at h1; exact hv _ _ _ h1.symm
  · simp at h1
theorem range_kept {W W' : World} {b off bt : Nat} {cs : List Value} (h : W.rangeAt b off cs) (hg : W.grownBy W' (some bt)) (hne : b ≠ bt) : W'.rangeAt b off cs := fun j v hj => hg.cell (h j v hj) (by simpa using hne)
theorem atomsL_head {t : List AtomD} (h : t ≠ []) : ∃ s, (atomsL t)[0]? = some (.string s) := by
  cases t with
  | nil => exact (h rfl).elim
  | cons x r => exact ⟨x.c0, rfl⟩
theorem prefsL_head {t : List PrefD} (h : t ≠ []) : ∃ s, (prefsL t)[0]? = some (.string s) := by
  cases t with
  | nil => exact (h rfl).elim
  | cons x r => exact ⟨x.c0, rfl⟩
theorem termsL_head {t : List (Int × Int)} (h : t ≠ []) : ∃ z, (termsL t)[0]? = some (.int .i64 z) := by
  cases t with
  | nil => exact (h rfl).elim
  | cons x r => exact ⟨x.1, rfl⟩
theorem TabK.box {W W' : World} {a : Option Addr} {t : List AtomD} {T : Nat → List (Int × Int)} {a2 : Option Addr} {p : List PrefD} {n m k bt : Nat} (h : TabK W a t T a2 p n m k) {b1 : Option Addr} {n1 c1 : Nat} {b2 : Option Addr} {n2 c2 : Nat} {ty : TypeId} {fr : Nat × Nat} (hb : W.heap[bt]? = some (.cells #[.slice b1 n1 c1, .slice b2 n2 c2] ty fr)) (hg : W.grownBy W' (some bt)) : TabK W' a t T a2 p n m k := by
  have hs := hg.size
  refine ⟨⟨?_, fun i hi => ⟨(h.tab.terms i hi).1, ?_, (h.tab.terms i hi).2.2⟩, h.tab.nums, h.tab.texts, ?_, h.tab.ptexts⟩, h.atoms, h.prefs, h.terms⟩
  · rcases h.tab.atoms with h1 | ⟨b, off, h1, h2, h3⟩
    · exact .inl h1
    · by_cases he : t = []
      · exact .inl he
      · obtain ⟨s, e⟩ := atomsL_head he
        exact .inr ⟨b, off, h1, range_kept h2 hg (ne_box h2 hb e (by intros; simp)), Nat.lt_of_lt_of_le h3 hs⟩
  · rcases (h.tab.terms i hi).2.1 with h1 | ⟨b, off, h1, h2, h3⟩
    · exact .inl h1
    · by_cases he : T i = []
      · exact .inl he
      · obtain ⟨s, e⟩ := termsL_head he
        exact .inr ⟨b, off, h1, range_kept h2 hg (ne_box h2 hb e (by intros; simp)), Nat.lt_of_lt_of_le h3 hs⟩
  · rcases h.tab.prefs with h1 | ⟨b, off, h1, h2, h3⟩
    · exact .inl h1
    · by_cases he : p = []
      · exact .inl he
      · obtain ⟨s, e⟩ := prefsL_head he
        exact .inr ⟨b, off, h1, range_kept h2 hg (ne_box h2 hb e (by intros; simp)), Nat.lt_of_lt_of_le h3 hs⟩
/-- A box of two slices that is told anew. -/
theorem box_told {W : World} {bt : Nat} {ty : TypeId} (hb : W.heap[bt]? = some (.cells #[.slice none 0 0, .slice none 0 0] ty (0, 0))) (a : Option Addr) (n c : Nat) (a2 : Option Addr) (n2 c2 : Nat) :
    ((W.setCell ⟨bt, 0, none⟩ (.slice a n c)).setCell ⟨bt, 1, none⟩ (.slice a2 n2 c2)).heap[bt]? = some (.cells #[.slice a n c, .slice a2 n2 c2] ty (0, 0)) ∧ W.grownBy ((W.setCell ⟨bt, 0, none⟩ (.slice a n c)).setCell ⟨bt, 1, none⟩ (.slice a2 n2 c2)) (some bt) := by
  have h1 := heap_setCell_same W bt 0 _ _ (.slice a n c) hb
  have h2 := heap_setCell_same _ bt 1 _ _ (.slice a2 n2 c2) h1
  exact ⟨h2.trans rfl, grownTrans (grownBy_setCell W ⟨bt, 0, none⟩ _) (grownBy_setCell _ ⟨bt, 1, none⟩ _)⟩
end Go.Proofs.YtiinppicdhidhaaDoor
