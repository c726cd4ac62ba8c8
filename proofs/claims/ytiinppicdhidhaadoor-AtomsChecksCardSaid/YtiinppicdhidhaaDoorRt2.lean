/-
  The reference's table: the contract of drachmref05.Table.
-/
import Derived.Test.YtiinppicdhidhaaDoorRf
import Derived.Test.YtiinppicdhidhaaDoorTr
set_option linter.unusedVariables false
set_option linter.unusedSimpArgs false
namespace Go.Proofs.YtiinppicdhidhaaDoor
open Go.RowKit
open Go.Proofs

theorem take_getD (j : Nat) (hj : j < 24) : (tabRows.take 24).getD j default = rowAt (0 + j) := by
  simp only [rowAt, List.getD_eq_getElem?_getD, Nat.zero_add, List.getElem?_take, if_pos hj]
theorem drop_getD (j : Nat) (hj : j < 24) : (tabRows.drop 24).getD j default = rowAt (24 + j) := by
  simp only [rowAt, List.getD_eq_getElem?_getD, List.getElem?_drop]
theorem take_len : (tabRows.take 24).length = 24 := rfl
theorem drop_len : (tabRows.drop 24).length = 24 := rfl
def partV (i0 : Nat) (sl : Nat → Value) : List Value := (List.range 24).flatMap fun j => atomV (sl j) (i0 + j)
/-- The slices of the terms, first those of the first part, then those of the other. -/
def refSs (s1 s2 : Nat → Value) (i : Nat) : Value := if i < 24 then s1 i else s2 (i - 24)
theorem parts_atoms (s1 s2 : Nat → Value) : partV 0 s1 ++ partV 24 s2 = atomsV 48 (refSs s1 s2) := by
  unfold atomsV partV
  rw [show (48 : Nat) = 24 + 24 from rfl, List.range_add, List.flatMap_append, List.flatMap_map]
  congr 1
def PartOk (i0 : Nat) (w : World) (e : Ending) (w' : World) : Prop :=
  ∃ g sl, e = .returned (.slice (some ⟨g, 0, none⟩) 24 24) ∧ w'.ownsRow w.heap.size 33 12 (.slice (some ⟨g, 0, none⟩) 24 24) 24 (partV i0 sl) ∧ (∀ i, i < 24 → TermsAt w.heap.size w' (sl i) (rowAt (i0 + i)).terms) ∧ Below w.heap.size w w'
theorem refV_length (B i : Nat) (l : List RowD) : ∀ k, (∀ r ∈ l, r.codes.length = 5) → (refV B k i l).length = l.length * 12 := by
  induction l generalizing i with
  | nil => intro k _; rfl
  | cons r l ih =>
    intro k h
    have h5 := h r (by simp)
    rw [refV, List.length_append, ih (i + 1) (refK k r.terms) (fun x hx => h x (by simp [hx]))]
    simp [atomRV, h5]
    omega
theorem refV_one (B i : Nat) (l : List RowD) : ∀ k, ∀ u ∈ refV B k i l, u.oneCell' = true := by
  induction l generalizing i with
  | nil => intro k u hu; simp [refV] at hu
  | cons r l ih =>
    intro k u hu
    rw [refV, List.mem_append] at hu
    rcases hu with hu | hu
    · simp only [atomRV, List.mem_append, List.mem_map, List.mem_cons, List.not_mem_nil, or_false] at hu
      rcases hu with ⟨c, _, rfl⟩ | rfl | rfl | rfl | rfl | rfl | rfl | rfl <;> try rfl
      unfold termSl
      cases r.terms <;> rfl
    · exact ih (i + 1) _ u hu
theorem news_own {w : World} {N : List Obj} {cs : List Value} {e z n : Nat} (b0 : Nat) (hb : b0 ≤ w.heap.size) (hl : cs.length = n * z) (hn : n ≤ 1000) :
    (news w (N ++ [.cells cs.toArray e])).ownsRow b0 e z (.slice (some ⟨w.heap.size + N.length, 0, none⟩) n n) n cs :=
  ⟨hl, .inr ⟨w.heap.size + N.length, n, cs.toArray, rfl, by omega, news_new w _ N.length _ (by simp), Nat.le_refl _, by unfold maxLen; omega, by simpa using hl, by simp [← hl]⟩⟩
theorem take_codes : ∀ r ∈ tabRows.take 24, r.codes.length = 5 := fun r hr => rows_codes r (List.mem_of_mem_take hr)
theorem drop_codes : ∀ r ∈ tabRows.drop 24, r.codes.length = 5 := fun r hr => rows_codes r (List.mem_of_mem_drop hr)
theorem part_ok {i0 : Nat} {rs : List RowD} (w : World) (hlen : rs.length = 24) (hget : ∀ j, j < 24 → rs.getD j default = rowAt (i0 + j)) (hc : ∀ r ∈ rs, r.codes.length = 5) (hs : ∀ r ∈ rs, r.terms.length ≤ 1000) :
    PartOk i0 w (.returned (.slice (some ⟨w.heap.size + (refN w.heap.size 0 i0 rs).length, 0, none⟩) 24 24)) (news w (refN w.heap.size 0 i0 rs ++ [.cells (refV w.heap.size 0 i0 rs).toArray 33])) := by
  have hv := refV_eq w.heap.size rs 0 i0 (fun j hj => hget j (by omega))
  rw [hlen] at hv
  have hl : (refV w.heap.size 0 i0 rs).length = 24 * 12 := by rw [refV_length _ _ _ _ hc, hlen]
  refine ⟨_, refSl w.heap.size 0 rs, rfl, ?_, fun i hi => ?_, news_below _ _⟩
  · have := news_own (w := w) (N := refN w.heap.size 0 i0 rs) (e := 33) w.heap.size (Nat.le_refl _) hl (by omega)
    rw [hv] at this ⊢
    exact this
  · rw [← hget i hi]
    refine refSl_terms w.heap.size _ w.heap.size (Nat.le_refl _) rs 0 i0 (fun j o hj => ?_) hs i (by omega)
    rw [Nat.add_zero]
    refine news_new w _ j o ?_
    rw [List.getElem?_append_left (List.getElem?_eq_some_iff.1 hj).1]
    exact hj
theorem first_ok (w : World) : Calls Tryd.prog 20 #[] w (PartOk 0 w) := (first_calls w).mono fun e w' ⟨he, hw⟩ => by
  rw [he, hw]
  exact part_ok w take_len take_getD take_codes (fun r hr => rows_short r (List.mem_of_mem_take hr))
theorem rest_ok (w : World) : Calls Tryd.prog 21 #[] w (PartOk 24 w) := (rest_calls w).mono fun e w' ⟨he, hw⟩ => by
  rw [he, hw]
  exact part_ok w drop_len drop_getD drop_codes (fun r hr => rows_short r (List.mem_of_mem_drop hr))
theorem partV_one (i0 : Nat) (h : i0 ≤ 24) (sl : Nat → Value) (hsl : ∀ i, i < 24 → ∃ a n c, sl i = .slice a n c) : ∀ u ∈ partV i0 sl, u.oneCell' = true := by
  intro u hu
  simp only [partV, List.mem_flatMap, List.mem_range] at hu
  obtain ⟨j, hj, hu⟩ := hu
  obtain ⟨a, n, c, e⟩ := hsl j hj
  rw [e, atomV_at _ _ (by omega) _ rfl] at hu
  exact atomArr_one _ _ _ _ _ u hu
theorem ownBase {w : World} {B B' e z n : Nat} {v : Value} {xs : List Value} (h : w.ownsRow B' e z v n xs) (hB : B ≤ B') : w.ownsRow B e z v n xs := by
  refine ⟨h.1, ?_⟩
  rcases h.2 with h0 | ⟨g, cap, cur, hv, hb, r⟩
  · exact .inl h0
  · exact .inr ⟨g, cap, cur, hv, by omega, r⟩
theorem ref_end {w W0 w1 w2 w3 w4 : World} {g1 : Nat} {a : Option Addr} {c : Nat} {s1 s2 : Nat → Value} (hW0 : W0 = w.alloc (.cells #[.slice none 0 0, .slice none 0 0] 27)) (hb1 : Below W0.heap.size W0 w1) (hb2 : Below w1.heap.size w1 w2)
    (ho1 : w2.ownsRow (w.heap.size + 1) 33 12 (.slice (some ⟨g1, 0, none⟩) 24 24) 24 (partV 0 s1)) (ht1 : ∀ i, i < 24 → TermsAt W0.heap.size w1 (s1 i) (rowAt (0 + i)).terms) (ht2 : ∀ i, i < 24 → TermsAt w1.heap.size w2 (s2 i) (rowAt (24 + i)).terms)
    (hg : w2.grownBy w3 (some g1)) (ho : w3.ownsRow (w.heap.size + 1) 33 12 (.slice a 48 c) 48 (partV 0 s1 ++ partV 24 s2)) (hw4 : w4 = news w3 [.cells (presV tabPres).toArray 35]) :
    TableAt w.heap.size w4 (.slice a 48 c) (.slice (some ⟨w3.heap.size, 0, none⟩) 20 20) (refSs s1 s2) ∧ Below w.heap.size w w4 ∧ w4.heap[w.heap.size]? = some (.cells #[.slice none 0 0, .slice none 0 0] 27 (0, 0)) := by
  have z0 : W0.heap.size = w.heap.size + 1 := by rw [hW0]; simp
  have z1 := hb1.size
  have z2 := hb2.size
  have z3 := hg.size
  have hlt := ho1.lt g1 rfl
  have hn : Below w3.heap.size w3 w4 := by rw [hw4]; exact news_below _ _
  have k1 : ∀ s ts, TermsAt w.heap.size w2 s ts → TermsAt w.heap.size w4 s ts := fun s ts h => (h.kept hg (own_own h.own ho1 (by decide))).below hn
  refine ⟨⟨?_, ?_, ?_⟩, ?_, ?_⟩
  · rw [← parts_atoms]
    exact ownBelow (ownBase ho (by omega)) hn
  · rw [hw4]
    have := news_own (w := w3) (N := []) (cs := presV tabPres) (e := 35) (z := 6) (n := 20) w.heap.size (by omega) (by kernel_rfl) (by omega)
    simpa using this
  · intro i hi
    refine k1 _ _ ?_
    by_cases h : i < 24
    · have := ((ht1 i h).below hb2).base (B := w.heap.size) (by omega)
      rw [Nat.zero_add] at this
      simp only [refSs, if_pos h]
      exact this
    · have := (ht2 (i - 24) (by omega)).base (B := w.heap.size) (by omega)
      rw [show 24 + (i - 24) = i by omega] at this
      simp only [refSs, if_neg h]
      exact this
  · have b0 : Below w.heap.size w W0 := by rw [hW0]; exact (Below.refl _ _).alloc (Nat.le_refl _) _
    have b2 : Below w.heap.size w w2 := (b0.trans (hb1.mono (by omega))).trans (hb2.mono (by omega))
    exact (b2.grown hg (by omega) (fun j hj => by simp at hj; omega)).trans (hn.mono (by omega))
  · rw [hn.block _ (by omega), hg.block _ (by omega) (by simp; omega), hb2.block _ (by omega), hb1.block _ (by omega), hW0]
    exact heap_alloc_new w _
set_option maxHeartbeats 1000000 in
theorem refTable_ok (w : World) : Calls Tryd.prog 11 #[] w (TableOk w) := by
  obtain ⟨i0, hi, hz0, hz1, hz2⟩ := info_parts info_A
  go_enter Tryd.func11, Tryd.ntmps11
  go_wp2_with fail
  refine (first_ok _).mono ?_
  intro e w1 h1
  obtain ⟨g1, s1, rfl, hown1, hterms1, hb1⟩ := h1
  go_wp2_with fail
  refine (rest_ok _).mono ?_
  intro e w2 h2
  obtain ⟨g2, s2, rfl, hown2, hterms2, hb2⟩ := h2
  have hz : w.heap.size + 1 ≤ w1.heap.size := by have := hb1.size; simpa using this
  have hsz0 : (w.alloc (.cells #[.slice none 0 0, .slice none 0 0] 27)).heap.size = w.heap.size + 1 := by simp
  have HO1 : Hid (w2.ownsRow (w.heap.size + 1) 33 12 (.slice (some ⟨g1, 0, none⟩) 24 24) 24 (partV 0 s1)) := by
    have h := ownBelow hown1 hb2
    rw [hsz0] at h
    exact h
  have HO2 := Lib.hid hown2
  have HX : Hid (∀ j u, (partV 24 s2)[j]? = some u → w2.cell? ((⟨g2, 0, none⟩ : Addr).add j) = some u) := fun j u hu => hown2.cells (g := g2) rfl j u hu
  have HN : Hid (∀ u ∈ partV 24 s2, u.oneCell' = true) := partV_one 24 (Nat.le_refl _) s2 (fun i hi => by
    obtain ⟨a, c, e⟩ := slice_of (hterms2 i hi).own
    exact ⟨a, _, c, e⟩)
  have HT1 := Lib.hid hterms1; have HT2 := Lib.hid hterms2; have HB1 := Lib.hid hb1; have HB2 := Lib.hid hb2
  clear hown1 hown2 hterms1 hterms2 hb1 hb2 hsz0
  go_wp2_with (at_builtin; refine wpList_append_own _ rfl _ _ 24 rfl (w.heap.size + 1) 33 i0 _ 12 152 Tryd.underlying24 hi hz0 hz1 hz2 rfl (by decide) _ 24 _ rfl HO1.out ⟨g2, 0, none⟩ 24 24 (partV 24 s2) rfl HO2.out.1 HX.out HN.out ?_ ?_ ?_ ?_)
  · unfold maxLen; omega
  · omega
  · have := HB2.out.size; omega
  · intro v' w3 hown' hgrow hnil
    obtain ⟨x1, x2, rfl⟩ := slice_of hown'
    have HO' := Lib.hid hown'; have HG := Lib.hid hgrow
    clear hown' hgrow hnil
    go_wp2_with fail
    refine (prefixes_calls _).mono ?_
    rintro e w4 ⟨rfl, hw4⟩
    obtain ⟨hta, hbb, hcell⟩ := ref_end rfl HB1.out HB2.out HO1.out HT1.out HT2.out HG.out HO'.out hw4
    have r0 : w4.cell? ⟨w.heap.size, 0, none⟩ = some (.slice none 0 0) := by simp [World.cell?, hcell]
    have r1 : w4.cell? ⟨w.heap.size, 1, none⟩ = some (.slice none 0 0) := by simp [World.cell?, hcell]
    have f0 : w4.frozen? ⟨w.heap.size, 0, none⟩ = false := by simp [World.frozen?, hcell]
    have f1 : w4.frozen? ⟨w.heap.size, 1, none⟩ = false := by simp [World.frozen?, hcell]
    have HTA := Lib.hid hta; have HBB := Lib.hid hbb; have HC := Lib.hid hcell
    clear hw4 hta hbb hcell
    go_wp2_with fail
    have hend := table_end HTA.out.atoms HTA.out.terms HTA.out.pres HBB.out HC.out (.slice x1 48 x2) (.slice (some ⟨w3.heap.size, 0, none⟩) 20 20)
    exact bodyPost_ret (v := .agg #[.slice x1 48 x2, .slice (some ⟨w3.heap.size, 0, none⟩) 20 20]) (by simp [results, Tryd.results11, go_sem, r0, r1]) rfl ⟨_, _, _, _, _, rfl, hend.1, hend.2⟩
end Go.Proofs.YtiinppicdhidhaaDoor
