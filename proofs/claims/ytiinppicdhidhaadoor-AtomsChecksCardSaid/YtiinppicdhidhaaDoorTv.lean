/-
  The table at a world as plain data (also with one code changed), and what atoms.Check answers there.
-/
import Derived.Test.YtiinppicdhidhaaDoorCk
import Derived.Laws.OwnMore
set_option linter.unusedVariables false
set_option linter.unusedSimpArgs false
namespace Go.Proofs.YtiinppicdhidhaaDoor
open Go.RowKit
open Go.Proofs

def tabT (i : Nat) : List (Int × Int) := (rowAt i).terms
def prefD (k : Nat) : PrefD := ⟨⟨(preCodeAt k 0).toArray⟩, ⟨(preCodeAt k 1).toArray⟩, ⟨(preCodeAt k 2).toArray⟩, ⟨(preCodeAt k 3).toArray⟩, ⟨(preCodeAt k 4).toArray⟩, (preAt k).ten⟩
def presD : List PrefD := (List.range 20).map prefD
theorem presD_cells : prefsL presD = presV tabPres := by kernel_rfl
theorem presD_length : presD.length = 20 := by simp [presD]
theorem presD_at {k : Nat} (hk : k < 20) : presD[k]?.getD default = prefD k := by simp [presD, hk]
theorem codesA_row (ss : Nat → Value) (i k : Nat) (hk : k < 5) : codesA (rowD ss i) k = ⟨(codeAt i k).toArray⟩ := by
  rcases k with _ | _ | _ | _ | _ | k <;> first | rfl | omega
theorem codesP_row (i k : Nat) (hk : k < 5) : codesP (prefD i) k = ⟨(preCodeAt i k).toArray⟩ := by
  rcases k with _ | _ | _ | _ | _ | k <;> first | rfl | omega
theorem terms_in {B : Nat} {w : World} {a : Option Addr} {n c : Nat} {ts : List (Int × Int)} (h : TermsAt B w (.slice a n c) ts) : n = ts.length ∧ TermsIn w a ts := by
  rcases h.own.2 with ⟨h1, h2⟩ | ⟨g, cap, cur, h1, h2, h3, h4⟩
  · simp only [Value.slice.injEq] at h1
    exact ⟨by omega, .inl (List.eq_nil_of_length_eq_zero h2)⟩
  · simp only [Value.slice.injEq] at h1
    obtain ⟨rfl, rfl, rfl⟩ := h1
    refine ⟨rfl, .inr ⟨g, 0, rfl, ?_, (h.own.lt g rfl).2⟩⟩
    intro j v hj
    have := h.own.cells (g := g) rfl j v hj
    rw [addPlain] at this
    rw [Nat.zero_add]
    exact this
theorem size_short (cs : Nat → ByteArray) (h : ∀ j, j < 5 → (cs j).size ≤ 8) (h5 : ∀ j, 5 ≤ j → (cs j).size = 0) (j : Nat) : (cs j).size ≤ maxLen := by
  unfold maxLen
  by_cases hj : j < 5
  · have := h j hj; omega
  · rw [h5 j (by omega)]; omega
theorem codesA_high (x : AtomD) (j : Nat) (h : 5 ≤ j) : (codesA x j).size = 0 := by
  rcases j with _ | _ | _ | _ | _ | j <;> first | rfl | omega
theorem codesP_high (x : PrefD) (j : Nat) (h : 5 ≤ j) : (codesP x j).size = 0 := by
  rcases j with _ | _ | _ | _ | _ | j <;> first | rfl | omega
theorem codeAt_short : ∀ i, i < 48 → ∀ j, j < 5 → (codeAt i j).length ≤ 8 := by decide +kernel
theorem preCode_short : ∀ i, i < 20 → ∀ j, j < 5 → (preCodeAt i j).length ≤ 8 := by decide +kernel
theorem nums_bd : ∀ i, i < 48 → (rowAt i).num ≤ 9223372036854775807 ∧ (rowAt i).den ≤ 9223372036854775807 := by decide +kernel
theorem terms_few : ∀ i, i < 48 → (tabT i).length ≤ 9 := by decide +kernel
/-- The table at a world. -/
theorem tab_in {B : Nat} {w : World} {g : Nat} {a2 : Option Addr} {c2 : Nat} {ss : Nat → Value} {t : List AtomD} (ht : t.length = 48) (hs : ∀ i (h : i < t.length), t[i].ta = (slOf (ss i)).1 ∧ t[i].tn = (slOf (ss i)).2.1) (hn : ∀ i (h : i < t.length), t[i].num = (rowAt i).num ∧ t[i].den = (rowAt i).den)
    (hc : ∀ i (h : i < t.length), ∀ j, j < 5 → (codesA t[i] j).size ≤ 8) (hr : w.rangeAt g 0 (atomsL t)) (hT : ∀ i, i < 48 → TermsAt B w (ss i) (rowAt i).terms) (hp : w.ownsRow B 35 6 (.slice a2 20 c2) 20 (presV tabPres)) :
    TabIn w (some ⟨g, 0, none⟩) t tabT a2 presD := by
  have hne : atomsL t ≠ [] := fun e => by
    have := atomsL_length t
    rw [e, ht] at this
    simp at this
  refine ⟨.inr ⟨g, 0, rfl, hr, range_lt hr hne⟩, fun i hi => ?_, fun i hi => ?_, fun i j => ?_, ?_, fun i j => ?_⟩
  · have h := hT i (by omega)
    have hsl : ss i = .slice (slOf (ss i)).1 (slOf (ss i)).2.1 (slOf (ss i)).2.2 := slOf_eq (by
      obtain ⟨a, c, e⟩ := slice_of h.own
      exact ⟨a, _, c, e⟩)
    rw [hsl] at h
    obtain ⟨h1, h2⟩ := terms_in h
    have := hs i hi
    exact ⟨this.2.trans h1, by rw [this.1]; exact h2, by have := terms_few i (by omega); show (tabT i).length ≤ _; omega⟩
  · have := nums_bd i (by omega)
    rw [(hn i hi).1, (hn i hi).2]
    exact this
  · rw [csA]
    refine size_short _ (fun j hj => ?_) (codesA_high _) j
    by_cases hi : i < t.length
    · rw [List.getElem?_eq_getElem hi]
      exact hc i hi j hj
    · rw [List.getElem?_eq_none (by omega)]
      rcases j with _ | _ | _ | _ | _ | j <;> first | exact Nat.zero_le _ | omega
  · obtain ⟨g2, cap, e⟩ := form_of hp (by omega)
    simp only [Value.slice.injEq] at e
    obtain ⟨rfl, -, rfl⟩ := e
    refine .inr ⟨g2, 0, rfl, ?_, (hp.lt g2 rfl).2⟩
    rw [presD_cells]
    exact rangeOf hp 0 (20 * 6) _ (by rw [List.drop_zero, List.take_of_length_le]; rw [hp.1]; exact Nat.le_refl _)
  · rw [csP]
    refine size_short _ (fun j hj => ?_) (codesP_high _) j
    by_cases hi : i < 20
    · rw [presD_at hi, codesP_row i j hj]
      exact preCode_short i hi j hj
    · rw [List.getElem?_eq_none (by rw [presD_length]; omega)]
      rcases j with _ | _ | _ | _ | _ | j <;> first | exact Nat.zero_le _ | omega
theorem tabD_get (ss : Nat → Value) (i : Nat) (h : i < (tabD ss).length) : (tabD ss)[i] = rowD ss i := by simp [tabD]
theorem codeAt_row_short (ss : Nat → Value) (i : Nat) (hi : i < 48) (j : Nat) (hj : j < 5) : (codesA (rowD ss i) j).size ≤ 8 := by
  rw [codesA_row ss i j hj]
  exact codeAt_short i hi j hj
theorem tab_in0 {B : Nat} {w : World} {g c1 : Nat} {a2 : Option Addr} {c2 : Nat} {ss : Nat → Value} (hr : w.rangeAt g 0 (atomsL (tabD ss))) (h : TableAt B w (.slice (some ⟨g, 0, none⟩) 48 c1) (.slice a2 20 c2) ss) :
    TabIn w (some ⟨g, 0, none⟩) (tabD ss) tabT a2 presD := by
  refine tab_in (tabD_length ss) (fun i hi => ?_) (fun i hi => ?_) (fun i hi j hj => ?_) hr h.terms h.pres
  · rw [tabD_get]; exact ⟨rfl, rfl⟩
  · rw [tabD_get]; exact ⟨rfl, rfl⟩
  · rw [tabD_get]; exact codeAt_row_short ss i (by rw [tabD_length] at hi; exact hi) j hj
/-! One code of the table changed. -/
theorem atomsL_set : ∀ (t : List AtomD) (i j : Nat) (hi : i < t.length) (u : Value) (x : AtomD), j < 12 → atomL x = (atomL t[i]).set j u → (atomsL t).set (i * 12 + j) u = atomsL (t.set i x)
  | [], i, j, hi, _, _, _, _ => by simp at hi
  | y :: t, 0, j, _, u, x, hj, h => by
    have e : atomsL (y :: t) = atomL y ++ atomsL t := rfl
    have e2 : atomsL ((y :: t).set 0 x) = atomL x ++ atomsL t := rfl
    rw [e, e2, h, Nat.zero_mul, Nat.zero_add, List.set_append_left _ _ (by simpa [atomL] using hj)]
    rfl
  | y :: t, i + 1, j, hi, u, x, hj, h => by
    have e : atomsL (y :: t) = atomL y ++ atomsL t := rfl
    have e2 : atomsL ((y :: t).set (i + 1) x) = atomL y ++ atomsL (t.set i x) := rfl
    have hl : (atomL y).length = 12 := rfl
    rw [e, e2, List.set_append_right _ _ (by omega), ← atomsL_set t i j (by simpa using hi) u x hj h]
    congr 2
    omega
def rowM (ss : Nat → Value) : AtomD := { rowD ss 1 with c0 := ⟨#[109]⟩ }
def tabM (ss : Nat → Value) : List AtomD := (tabD ss).set 1 (rowM ss)
theorem tabM_length (ss : Nat → Value) : (tabM ss).length = 48 := by simp [tabM, tabD]
theorem tabM_get (ss : Nat → Value) (i : Nat) (h : i < (tabM ss).length) : (tabM ss)[i] = if i = 1 then rowM ss else rowD ss i := by
  simp only [tabM, List.getElem_set, tabD_get]
  by_cases e : 1 = i
  · rw [if_pos e, if_pos e.symm]
  · rw [if_neg e, if_neg (Ne.symm e)]
theorem tabM_at (ss : Nat → Value) {i : Nat} (h : i < 48) : (tabM ss)[i]?.getD default = if i = 1 then rowM ss else rowD ss i := by
  rw [List.getElem?_eq_getElem (by rw [tabM_length]; exact h), Option.getD_some, tabM_get]
theorem tab_inM {B : Nat} {w : World} {g c1 : Nat} {a2 : Option Addr} {c2 : Nat} {ss : Nat → Value} (h : TableAt B w (.slice (some ⟨g, 0, none⟩) 48 c1) (.slice a2 20 c2) ss) :
    TabIn (w.setCell ⟨g, 12, none⟩ (.string ⟨#[109]⟩)) (some ⟨g, 0, none⟩) (tabM ss) tabT a2 presD := by
  obtain ⟨hs, hg⟩ := h.atoms.stored 12 (.string ⟨#[109]⟩)
  have hcs : (atomsV 48 ss).set 12 (.string ⟨#[109]⟩) = atomsL (tabM ss) := by
    rw [tabD_cells ss h.slices]
    exact atomsL_set (tabD ss) 1 0 (by rw [tabD_length]; omega) _ (rowM ss) (by omega) (by rw [tabD_get]; rfl)
  rw [hcs] at hs
  refine tab_in (ss := ss) (tabM_length ss) (fun i hi => ?_) (fun i hi => ?_) (fun i hi j hj => ?_) (rangeOf hs 0 (48 * 12) _ (by rw [List.drop_zero, List.take_of_length_le]; rw [atomsL_length, tabM_length]; exact Nat.le_refl _)) (fun i hi => (h.terms i hi).kept hg (own_own (h.terms i hi).own h.atoms (by decide)))
    (h.pres.kept hg (own_own h.pres h.atoms (by decide)))
  · rw [tabM_get]
    split
    · rename_i e; subst e; exact ⟨rfl, rfl⟩
    · exact ⟨rfl, rfl⟩
  · rw [tabM_get]
    split
    · rename_i e; subst e; exact ⟨rfl, rfl⟩
    · exact ⟨rfl, rfl⟩
  · rw [tabM_get]
    split
    · rcases j with _ | _ | _ | _ | _ | j
      · exact Nat.le_of_ble_eq_true rfl
      · exact codeAt_row_short ss 1 (by omega) 1 (by omega)
      · exact codeAt_row_short ss 1 (by omega) 2 (by omega)
      · exact codeAt_row_short ss 1 (by omega) 3 (by omega)
      · exact codeAt_row_short ss 1 (by omega) 4 (by omega)
      · omega
    · exact codeAt_row_short ss i (by rw [tabM_length] at hi; exact hi) j hj
/-! What atoms.Check answers. -/
theorem tab_codesB : ((List.range 48).all fun i => codesOkL codeAt i) = true := by kernel_rfl
theorem pre_codesB : ((List.range 20).all fun i => codesOkL preCodeAt i && (decide (-30 ≤ (preAt i).ten) && decide ((preAt i).ten ≤ 30))) = true := by kernel_rfl
theorem tab_worthB (ss : Nat → Value) : ((List.range 48).all fun i => worthS (tabD ss) (tabT i) i) = true := by kernel_rfl
theorem all_range {n : Nat} {p : Nat → Bool} (h : ((List.range n).all p) = true) (i : Nat) (hi : i < n) : p i = true := List.all_eq_true.1 h i (List.mem_range.2 hi)
theorem csA_tab (ss : Nat → Value) (i : Nat) (hi : i < 48) (k : Nat) (hk : k < 5) : csA (tabD ss) i k = ⟨(codeAt i k).toArray⟩ := by rw [csA, tabD_at ss hi, codesA_row ss i k hk]
theorem tab_okA (ss : Nat → Value) (i : Nat) (hi : i < 48) : okA (tabD ss) tabT i = true := by
  rw [okA_eq, codesOk_list (csA (tabD ss)) codeAt i fun j hj k hk => csA_tab ss j (by omega) k hk, all_range tab_codesB i hi, all_range (tab_worthB ss) i hi]
  rfl
theorem pre_okP (i : Nat) (hi : i < 20) : okP presD i = true := by
  rw [okP_eq, codesOk_list (csP presD) preCodeAt i fun j hj k hk => by rw [csP, presD_at (by omega), codesP_row j k hk], presD_at hi]
  exact all_range pre_codesB i hi
theorem check_tab (ss : Nat → Value) : checkS (tabD ss) tabT presD = -1 :=
  check_all (by rw [tabD_length]; omega) (by rw [presD_length]; omega) (fun i hi => tab_okA ss i (by rw [tabD_length] at hi; exact hi)) (fun i hi => pre_okP i (by rw [presD_length] at hi; exact hi))
theorem check_atom {t : List AtomD} {T : Nat → List (Int × Int)} {p : List PrefD} {k : Nat} (h1 : ¬ 100 < t.length) (h2 : ¬ 30 < p.length) (ha : ∀ i, i < k → okA t T i = true) (hk : k < t.length) (hb : okA t T k = false) : checkS t T p = k := by
  have : (List.range t.length).find? (fun i => !okA t T i) = some k := by
    rw [List.find?_eq_some_iff_getElem]
    refine ⟨by simp [hb], k, by simpa using hk, by simp, fun j hj => by simp [ha j hj]⟩
  rw [checkS, if_neg (by omega), this]
theorem check_tabM (ss : Nat → Value) : checkS (tabM ss) tabT presD = 1 := by
  refine check_atom (k := 1) (by rw [tabM_length]; omega) (by rw [presD_length]; omega) (fun i hi => ?_) (by rw [tabM_length]; omega) ?_
  · obtain rfl : i = 0 := by omega
    rw [okA_eq, codesOk_list (csA (tabM ss)) codeAt 0 fun j hj k hk => by
      obtain rfl : j = 0 := by omega
      rw [csA, tabM_at ss (by omega), if_neg (by omega), codesA_row ss 0 k hk]]
    have h1 : codesOkL codeAt 0 = true := all_range tab_codesB 0 (by omega)
    have h2 : worthS (tabM ss) (tabT 0) 0 = true := by kernel_rfl
    rw [h1, h2]
    rfl
  · rw [okA_eq]
    have h0 : csA (tabM ss) 0 0 = ⟨#[109]⟩ := by rw [csA, tabM_at ss (by omega), if_neg (by omega)]; rfl
    have h1 : csA (tabM ss) 1 0 = ⟨#[109]⟩ := by rw [csA, tabM_at ss (by omega), if_pos rfl]; rfl
    have hf : freshK (csA (tabM ss)) 1 0 = false := by
      rw [freshK, h1, ByteArray.toList_eq]
      simp [List.range_succ, h0]
    have : codesOk (csA (tabM ss)) 1 = false := by
      rw [codesOk, show List.range 5 = [0, 1, 2, 3, 4] from rfl, List.all_cons, hf]
      simp
    rw [this]
    rfl
end Go.Proofs.YtiinppicdhidhaaDoor
