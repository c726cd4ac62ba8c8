/-
  symbol: the book of a notation. The reference's symbols: an atom's place, a prefix's beginning. The reference's symbols: does a text begin with another one; what a symbol is.
-/
import Derived.Test.YtaakaajcpjiccaaDoorNa18
set_option linter.unusedVariables false
set_option linter.unusedSimpArgs false
namespace Go.Proofs.YtaakaajcpjiccaaDoor
open Go.RowKit
open Go.Proofs

/-- The block k holds cells of the type t. -/
def BlockT (w : World) (k : Nat) (t : TypeId) : Prop := ∃ cs fr, w.heap[k]? = some (.cells cs t fr)
theorem BlockT.below {w w' : World} {k : Nat} {t : TypeId} (h : BlockT w k t) (hb : Below w.heap.size w w') : BlockT w' k t := by
  obtain ⟨cs, fr, h⟩ := h
  exact ⟨cs, fr, blkUnder h hb⟩
theorem BlockT.set {w : World} {k b i : Nat} {t : TypeId} {v : Value} (h : BlockT w k t) (hn : k ≠ b) : BlockT (w.setCell ⟨b, i, none⟩ v) k t := by
  obtain ⟨cs, fr, h⟩ := h
  exact ⟨cs, fr, (Below.heap_setCell w ⟨b, i, none⟩ v k hn).trans h⟩
theorem block_of_row {w : World} {B : Nat} {e : TypeId} {z n g c : Nat} {xs : List Value} (h : w.ownsRow B e z (.slice (some ⟨g, 0, none⟩) n c) n xs) : BlockT w g e := by
  rcases h.2 with ⟨h1, _⟩ | ⟨g2, cap2, cur, h1, _, hgb, _⟩
  · cases h1
  · cases h1
    exact ⟨_, _, hgb⟩
/-- atoms.Table's answer as a book's. -/
def TabB (w : World) (e : Ending) (w' : World) : Prop := ∃ g c1 g2 c2 ss, e = .returned (.agg #[.slice (some ⟨g, 0, none⟩) 48 c1, .slice (some ⟨g2, 0, none⟩) 20 c2]) ∧ BookIn w' g g2 ss ∧ w.heap.size ≤ g ∧ w.heap.size ≤ g2 ∧ (BlockT w' g 124 ∧ BlockT w' g2 145) ∧ Below w.heap.size w w'
theorem tab_book (w : World) (hL : Laid w) : Calls Tryd.prog 66 #[] w (TabB w) := (tab_ok w hL).mono fun e w' h => by
  obtain ⟨g, c1, a2, c2, ss, rfl, hr, hg, ht, hb⟩ := h
  obtain ⟨g2, cap, hg2⟩ := form_of ht.pres (by omega)
  simp only [Value.slice.injEq] at hg2
  obtain ⟨rfl, -, rfl⟩ := hg2
  have hp := rangeOf ht.pres 0 (20 * 6) (presV tabPres) (by
    rw [List.drop_zero, List.take_of_length_le]
    decide +kernel)
  have h2 := (World.ownsRow.lt ht.pres g2 rfl).1
  refine ⟨g, c1, g2, c2, ss, rfl, ⟨hr, ?_, hp, ?_⟩, hg, h2, ⟨block_of_row ht.atoms, block_of_row ht.pres⟩, hb⟩
  · exact range_lt hr (fun h => by have := atomsL_length (tabD ss); rw [h, tabD_length] at this; simp at this)
  · exact range_lt hp (by decide +kernel)
theorem laid_under {w w' : World} (h : Laid w) (hb : Below w.heap.size w w') : Laid w' := fun j u hu => cell_under (h j u hu) hb
theorem set_someQ {W : World} {p a : Addr} {v : Value} (h : (W.cell? a).isSome = true) : ((W.setCell p v).cell? a).isSome = true := by
  by_cases e : p = a
  · subst e
    rw [World.cell?_setCell_same' _ _ _ h]; rfl
  · rw [World.cell?_setCell_other (h := e)]; exact h
theorem ne_offQ {b i j : Nat} (h : i ≠ j) : (⟨b, i, none⟩ : Addr) ≠ ⟨b, j, none⟩ := fun e => h (Addr.mk.inj e).2.1
/-- The cells of a block written one by one. -/
def setRowLQ (b : Nat) : Nat → List Value → World → World
  | _, [], W => W
  | j, v :: l, W => setRowLQ b (j + 1) l (W.setCell ⟨b, j, none⟩ v)
theorem setRowL_belowQ (b : Nat) : ∀ (l : List Value) (j i : Nat) (W : World), i < j → (setRowLQ b j l W).cell? ⟨b, i, none⟩ = W.cell? ⟨b, i, none⟩
  | [], _, _, _, _ => rfl
  | v :: l, j, i, W, h => by
    rw [setRowLQ, setRowL_belowQ b l (j + 1) i _ (by omega)]
    exact World.cell?_setCell_other (h := ne_offQ (by omega)) ..
theorem setRowL_rangeQ (b : Nat) : ∀ (l : List Value) (j : Nat) (W : World), (∀ i, j ≤ i → i < j + l.length → (W.cell? ⟨b, i, none⟩).isSome = true) → (setRowLQ b j l W).rangeAt b j l
  | [], _, _, _ => fun i u hu => by cases hu
  | v :: l, j, W, h => fun i u hu => by
    rcases i with _ | i
    · simp only [List.getElem?_cons_zero, Option.some.injEq] at hu
      subst hu
      show (setRowLQ b (j + 1) l (W.setCell ⟨b, j, none⟩ v)).cell? ⟨b, j, none⟩ = _
      rw [setRowL_belowQ b l (j + 1) j _ (by omega)]
      exact World.cell?_setCell_same' _ _ _ (h j (Nat.le_refl _) (by simp))
    · rw [List.getElem?_cons_succ] at hu
      have := setRowL_rangeQ b l (j + 1) (W.setCell ⟨b, j, none⟩ v) (fun k h1 h2 => set_someQ (h k (by omega) (by simp only [List.length_cons]; omega))) i u hu
      rw [setRowLQ, show j + (i + 1) = j + 1 + i by omega]
      exact this
theorem results_row2Q {fn : Func} {p u : Tmp} {ty : TypeId} (h : fn.results = #[.cell p ty, .tmp u]) (tmps : Array Value) (w : World) (b : Nat) (cs : List Value) (d : TypeDesc)
    (hp : tmps.getD p undef = .pointer (some ⟨b, 0, none⟩)) (hc : w.rangeAt b 0 cs) (hu : Tryd.prog.underlying ty = some d) (hd : d.isRow = true) (hi : (Tryd.prog.info? ty).map (·.size) = some cs.length) :
    (results fn tmps).run Tryd.prog w = .ok (.tuple #[.agg cs.toArray, tmps.getD u undef]) w := by
  rw [results_cell_tmp h, hp]
  simp [asAddr, Result.andThen, run_loadVar_mid w b 0 ty cs d hc hu hd hi]
theorem range_far {w : World} {b g o : Nat} {cs : List Value} {i : Nat} {v : Value} (h : w.rangeAt g o cs) (hn : g ≠ b) : (w.setCell ⟨b, i, none⟩ v).rangeAt g o cs := fun j u hj => by
  rw [World.cell?_setCell_other (h := fun e => hn (Addr.mk.inj e).1.symm)]
  exact h j u hj
theorem book_set {w : World} {b g g2 : Nat} {ss : Nat → Value} {v0 v1 v2 : Value} (hg : b + 1 ≤ g) (hg2 : b + 1 ≤ g2) (h : BookIn w g g2 ss) : BookIn (((w.setCell ⟨b, 0, none⟩ v0).setCell ⟨b, 1, none⟩ v1).setCell ⟨b, 2, none⟩ v2) g g2 ss :=
  ⟨range_far (range_far (range_far h.atoms (by omega)) (by omega)) (by omega), by simpa using h.glt, range_far (range_far (range_far h.pres (by omega)) (by omega)) (by omega), by simpa using h.g2lt⟩
def BookOk (n : Int) (w : World) (e : Ending) (w' : World) : Prop := ∃ g c1 g2 c2 ss, e = .returned (.tuple #[.agg #[.slice (some ⟨g, 0, none⟩) 48 c1, .slice (some ⟨g2, 0, none⟩) 20 c2, .int .i64 n], .bool (decide (1 ≤ n ∧ n ≤ 5))]) ∧ BookIn w' g g2 ss ∧ w.heap.size ≤ g ∧ w.heap.size ≤ g2 ∧ (BlockT w' g 124 ∧ BlockT w' g2 145) ∧ Below w.heap.size w w'
set_option maxRecDepth 100000 in
set_option maxHeartbeats 4000000 in
theorem open_any (n : Int) (w : World) (hL : Laid w) : Calls Tryd.prog 44 #[.int .i64 n] w (BookOk n w) := by
  have wA : Below w.heap.size w (w.alloc (.cells #[.slice none 0 0, .slice none 0 0, .int .i64 0] 91)) := (Below.refl _ _).alloc (Nat.le_refl _) _
  have HT := Lib.hid (tab_book (w.alloc (.cells #[.slice none 0 0, .slice none 0 0, .int .i64 0] 91)) (laid_under hL wA))
  have hN := blkNew w #[.slice none 0 0, .slice none 0 0, .int .i64 0] 91
  have WA := Lib.hid wA
  clear wA
  go_enter Tryd.func44, Tryd.ntmps44
  go_wp2_with fail
  refine HT.out.mono ?_
  rintro e w1 ⟨g, c1, g2, c2, ss, rfl, hB, hg, hg2, hT, hb1⟩
  have HTT := Lib.hid hT
  have HB := Lib.hid hB
  rw [World.size_alloc] at hg hg2
  have W1 := Lib.hid (WA.out.trans (hb1.mono WA.out.size))
  have hk := blkUnder hN hb1
  clear hB hb1 hN hT
  have f0 := freeB hk (j := 0)
  have f1 := freeB hk (j := 1)
  have f2 := freeB hk (j := 2)
  have c0 := cellB hk (j := 0) rfl
  have c1' := cellB hk (j := 1) rfl
  have c2' := cellB hk (j := 2) rfl
  by_cases hn1 : 1 ≤ n
  · have HD : Hid (decide (1 ≤ n ∧ n ≤ 5) = decide (n ≤ 5)) := by show _ = _; simp [hn1]
    go_wp2_with fail
    refine bodyPost_ret (v := .tuple #[.agg #[.slice (some ⟨g, 0, none⟩) 48 c1, .slice (some ⟨g2, 0, none⟩) 20 c2, .int .i64 n], .bool (decide (n ≤ 5))]) (results_row2Q Tryd.results44 _ _ w.heap.size [_, _, _] _ rfl (setRowL_rangeQ w.heap.size [_, _, _] 0 _ (fun i h1 h2 => by
      have h3 : i = 0 ∨ i = 1 ∨ i = 2 := by simp only [List.length_cons, List.length_nil] at h2; omega
      rcases h3 with rfl | rfl | rfl
      · rw [c0]; rfl
      · rw [c1']; rfl
      · rw [c2']; rfl)) Tryd.underlying91 rfl (by kernel_rfl)) rfl ?_
    refine ⟨g, c1, g2, c2, ss, by rw [HD.out], ?_, by omega, by omega, ⟨((HTT.out.1.set (by omega)).set (by omega)).set (by omega), ((HTT.out.2.set (by omega)).set (by omega)).set (by omega)⟩, ?_⟩
    · exact book_set hg hg2 HB.out
    · exact ((W1.out.setCell (p := ⟨w.heap.size, 0, none⟩) (Nat.le_refl _) _).setCell (p := ⟨w.heap.size, 1, none⟩) (Nat.le_refl _) _).setCell (p := ⟨w.heap.size, 2, none⟩) (Nat.le_refl _) _
  · have HD : Hid (decide (1 ≤ n ∧ n ≤ 5) = false) := by show _ = _; simp [hn1]
    have hn2 : n < 1 := by omega
    go_wp2_with fail
    refine bodyPost_ret (v := .tuple #[.agg #[.slice (some ⟨g, 0, none⟩) 48 c1, .slice (some ⟨g2, 0, none⟩) 20 c2, .int .i64 n], .bool false]) (results_row2Q Tryd.results44 _ _ w.heap.size [_, _, _] _ rfl (setRowL_rangeQ w.heap.size [_, _, _] 0 _ (fun i h1 h2 => by
      have h3 : i = 0 ∨ i = 1 ∨ i = 2 := by simp only [List.length_cons, List.length_nil] at h2; omega
      rcases h3 with rfl | rfl | rfl
      · rw [c0]; rfl
      · rw [c1']; rfl
      · rw [c2']; rfl)) Tryd.underlying91 rfl (by kernel_rfl)) rfl ?_
    refine ⟨g, c1, g2, c2, ss, by rw [HD.out], ?_, by omega, by omega, ⟨((HTT.out.1.set (by omega)).set (by omega)).set (by omega), ((HTT.out.2.set (by omega)).set (by omega)).set (by omega)⟩, ?_⟩
    · exact book_set hg hg2 HB.out
    · exact ((W1.out.setCell (p := ⟨w.heap.size, 0, none⟩) (Nat.le_refl _) _).setCell (p := ⟨w.heap.size, 1, none⟩) (Nat.le_refl _) _).setCell (p := ⟨w.heap.size, 2, none⟩) (Nat.le_refl _) _
end Go.Proofs.YtaakaajcpjiccaaDoor
namespace Go.Proofs.YtaakaajcpjiccaaDoor
open Go.RowKit
open Go.Proofs

/-- None of the first k atoms has the code. -/
def NoAt (m : Nat) (s : List UInt8) (k : Nat) : Prop := s.isEmpty = true ∨ ∀ j, j < k → (codeAt j m == s) = false
theorem noAt_end {m : Nat} {s : List UInt8} (h : NoAt m s 48) : atomF m s = none := by
  unfold atomF
  rcases h with h | h
  · rw [if_pos h]
  · split
    · rfl
    · rw [List.find?_eq_none]
      intro j hj
      rw [h j (by simpa using hj)]
      simp
theorem noAt_hit {m : Nat} {s : List UInt8} {k : Nat} (hk : k < 48) (h : NoAt m s k) (he : s.isEmpty = false) (hc : (codeAt k m == s) = true) : atomF m s = some k := by
  unfold atomF
  rw [he]
  simp only [Bool.false_eq_true, if_false]
  rw [List.find?_range_eq_some]
  rcases h with h | h
  · rw [he] at h; cases h
  · exact ⟨hc, by simpa using hk, fun j hj => by rw [h j hj]; rfl⟩
theorem code_cell {w : World} {g g2 : Nat} {ss : Nat → Value} (h : BookIn w g g2 ss) (k m : Nat) (hk : k < 48) (hm : m < 5) : w.cell? ⟨g, k * 12 + m, none⟩ = some (.string ⟨(codeAt k m).toArray⟩) := by
  have h1 := atomD_range h.atoms k (by rw [tabD_length]; exact hk) m (.string (codesA (rowD ss k) m)) (by rw [tabD_getE]; exact codesA_cell _ m hm)
  rw [Nat.zero_add, codesA_rowD ss k m hm] at h1
  exact h1
set_option maxRecDepth 100000 in
set_option maxHeartbeats 4000000 in
theorem ratom_any (g c1 g2 c2 m : Nat) (ss : Nat → Value) (s : ByteArray) (w : World) (hm : m < 5) (hB : BookIn w g g2 ss) :
    Calls Tryd.prog 93 #[.agg #[.slice (some ⟨g, 0, none⟩) 48 c1, .slice (some ⟨g2, 0, none⟩) 20 c2], .int .i64 ((m : Int) + 1), .string s] w fun e w' => e = .returned (.int .i64 (orI (atomF m s.toList))) ∧ Below w.heap.size w w' := by
  have hb0 := blkNew w #[.slice (some ⟨g, 0, none⟩) 48 c1, .slice (some ⟨g2, 0, none⟩) 20 c2] 89
  have w2 : Below w.heap.size w (w.alloc (.cells #[.slice (some ⟨g, 0, none⟩) 48 c1, .slice (some ⟨g2, 0, none⟩) 20 c2] 89)) := (Below.refl _ _).alloc (Nat.le_refl _) _
  have W2 := Lib.hid w2
  have HB := Lib.hid (hB.below w2)
  have b0 := cellB hb0 (j := 0) rfl
  have b1 := cellB hb0 (j := 1) rfl
  clear hB w2 hb0
  have v1 : IntKind.i64.wrap (m : Int) = (m : Int) := IntWalk.i64_in _ (by omega)
  have v2 : (m : Int) < 5 := by omega
  have v3 : 0 ≤ (m : Int) := by omega
  go_enter Tryd.func93, Tryd.ntmps93
  go_wp2_with fail
  generalize w.alloc (.cells #[.slice (some ⟨g, 0, none⟩) 48 c1, .slice (some ⟨g2, 0, none⟩) 20 c2] 89) = V at W2 HB b0 b1 ⊢
  go_loopw [7] (fun i wr => ∃ k : Nat, k ≤ 48 ∧ i = .int .i64 (k : Int) ∧ NoAt m s.toList k ∧ wr = V) (fun i _ => 48 - (intOf i).toNat)
  case atStart => exact ⟨0, by omega, rfl, .inr (fun j h => by omega), rfl⟩
  case round =>
    obtain ⟨k, hk, rfl, hn, rfl⟩ := hrel
    have HN := Lib.hid hn
    clear hn
    by_cases hlt : k < 48
    · have hk48 : (k : Int) < 48 := by omega
      have hcell := code_cell HB.out k m hlt hm
      obtain ⟨cd, hcd⟩ : ∃ c : ByteArray, (⟨(codeAt k m).toArray⟩ : ByteArray) = c := ⟨_, rfl⟩
      have HC : Hid (cd.toList = codeAt k m) := by show _ = _; rw [← hcd, ByteArray.toList_eq]
      rw [hcd] at hcell
      clear hcd
      cases he : s.toList.isEmpty with
      | true =>
        go_wp2_with fail
        go_roundw
        case rel => exact ⟨k + 1, by omega, by simp, .inl he, by first | rfl | trivial⟩
        case measure => simp [intOf]; omega
      | false =>
        cases hc : (cd.toList == s.toList) with
        | true =>
          have HF : Hid (atomF m s.toList = some k) := noAt_hit hlt HN.out he (by rw [← HC.out]; exact hc)
          go_wp2_with fail
          go_ret
          exact ⟨by rw [HF.out]; rfl, W2.out⟩
        | false =>
          have HN2 : Hid (NoAt m s.toList (k + 1)) := by
            rcases HN.out with h | h
            · exact .inl h
            · refine .inr fun j hj => ?_
              by_cases hjk : j = k
              · subst hjk; rw [← HC.out]; exact hc
              · exact h j (by omega)
          go_wp2_with fail
          go_roundw
          case rel => exact ⟨k + 1, by omega, by simp, HN2.out, by first | rfl | trivial⟩
          case measure => simp [intOf]; omega
    · obtain rfl : k = 48 := by omega
      have HF := Lib.hid (noAt_end HN.out)
      go_wp2_with fail
      go_ret
      exact ⟨by rw [HF.out]; rfl, W2.out⟩
end Go.Proofs.YtaakaajcpjiccaaDoor
namespace Go.Proofs.YtaakaajcpjiccaaDoor
open Go.RowKit
open Go.Proofs

def begF (s p : List UInt8) : Bool := !p.isEmpty && decide (p.length < s.length) && (s.take p.length == p)
theorem extract_take (s : ByteArray) (n : Nat) : (s.extract 0 n).toList = s.toList.take n := by
  rw [ByteArray.toList_eq, ByteArray.toList_eq, ByteArray.data_extract]
  simp
theorem extract_drop (s : ByteArray) (n : Nat) : (s.extract n s.size).toList = s.toList.drop n := by
  rw [ByteArray.toList_eq, ByteArray.toList_eq, ByteArray.data_extract, Array.toList_extract, List.extract_eq_take_drop]
  refine List.take_of_length_le ?_
  rw [List.length_drop, Array.length_toList]
  exact Nat.le_refl _
set_option maxRecDepth 100000 in
set_option maxHeartbeats 4000000 in
theorem begins_any (s p : ByteArray) (w : World) (hs : s.size ≤ maxLen) :
    Calls Tryd.prog 94 #[.string s, .string p] w fun e w' => e = .returned (.bool (begF s.toList p.toList)) ∧ w' = w := by
  cases hp : p.toList.isEmpty with
  | true =>
    have HB : Hid (begF s.toList p.toList = false) := by show _ = _; rw [begF, hp]; rfl
    go_enter Tryd.func94, Tryd.ntmps94
    go_wp2_with fail
    go_ret
    exact ⟨by rw [HB.out]; rfl, rfl⟩
  | false =>
    by_cases hl : p.size < s.size
    · have hl2 : (p.size : Int) < (s.size : Int) := by omega
      go_enter Tryd.func94, Tryd.ntmps94
      go_wp2_with fail
      go_ret
      refine ⟨?_, rfl⟩
      rw [begF, hp, toList_size, toList_size, decide_eq_true hl, ← extract_take]
      rfl
    · have hl2 : (s.size : Int) ≤ (p.size : Int) := by omega
      have HB : Hid (begF s.toList p.toList = false) := by
        show _ = _
        rw [begF, hp, toList_size, toList_size, decide_eq_false hl]
        rfl
      go_enter Tryd.func94, Tryd.ntmps94
      go_wp2_with fail
      go_ret
      exact ⟨by rw [HB.out]; rfl, rfl⟩
theorem begF_no {m : Nat} {s : List UInt8} {k : Nat} (h : begF s (preCodeAt k m) = false) : preF m s k = none := by
  unfold preF
  cases hp : (preCodeAt k m).isEmpty with
  | true => rfl
  | false =>
    simp only [Bool.false_eq_true, if_false]
    cases hq : (preCodeAt k m).isPrefixOf s with
    | false => rfl
    | true =>
      simp only [if_true]
      rw [List.isPrefixOf_iff_prefix] at hq
      obtain ⟨r, rfl⟩ := hq
      rw [List.drop_left]
      cases r with
      | nil => rfl
      | cons x r =>
        exfalso
        simp [begF, hp] at h
theorem begF_yes {m : Nat} {s : List UInt8} {k : Nat} (h : begF s (preCodeAt k m) = true) : preF m s k = (atomF m (s.drop (preCodeAt k m).length)).filter fun a => (rowAt a).metric := by
  unfold begF at h
  simp only [Bool.and_eq_true, Bool.not_eq_true', decide_eq_true_eq, beq_iff_eq] at h
  obtain ⟨⟨h1, h2⟩, h3⟩ := h
  refine preF_eq h1 ?_
  rw [List.isPrefixOf_iff_prefix]
  exact ⟨s.drop (preCodeAt k m).length, by rw [← List.take_append_drop (preCodeAt k m).length s, h3]; simp⟩
theorem results_rowQ {fn : Func} {p : Tmp} {ty : TypeId} (h : fn.results = #[.cell p ty]) (tmps : Array Value) (w : World) (b : Nat) (cs : List Value) (d : TypeDesc)
    (hp : tmps.getD p undef = .pointer (some ⟨b, 0, none⟩)) (hc : w.rangeAt b 0 cs) (hu : Tryd.prog.underlying ty = some d) (hd : d.isRow = true) (hi : (Tryd.prog.info? ty).map (·.size) = some cs.length) :
    (results fn tmps).run Tryd.prog w = .ok (.agg cs.toArray) w := by
  have hp' : tmps[p]?.getD undef = .pointer (some ⟨b, 0, none⟩) := by simpa using hp
  simp [results, h, hp', asAddr, run_loadVar_mid w b 0 ty cs d hc hu hd hi]
theorem three_range {w : World} {b : Nat} {x0 x1 x2 : Value} {t : TypeId} {fr : Nat × Nat} (v0 v1 v2 : Value) (hk : w.heap[b]? = some (.cells #[x0, x1, x2] t fr)) : (((w.setCell ⟨b, 0, none⟩ v0).setCell ⟨b, 1, none⟩ v1).setCell ⟨b, 2, none⟩ v2).rangeAt b 0 [v0, v1, v2] :=
  setRowL_rangeQ b [v0, v1, v2] 0 w (fun i h1 h2 => by
    have h3 : i = 0 ∨ i = 1 ∨ i = 2 := by simp only [List.length_cons, List.length_nil] at h2; omega
    rcases h3 with rfl | rfl | rfl <;> simp [World.cell?, hk])
theorem three_below {w w1 : World} {B b : Nat} (v0 v1 v2 : Value) (h : Below B w w1) (hb : B ≤ b) : Below B w (((w1.setCell ⟨b, 0, none⟩ v0).setCell ⟨b, 1, none⟩ v1).setCell ⟨b, 2, none⟩ v2) :=
  ((h.setCell (p := ⟨b, 0, none⟩) hb v0).setCell (p := ⟨b, 1, none⟩) hb v1).setCell (p := ⟨b, 2, none⟩) hb v2
/-- What a symbol is, as the reference says it. -/
def symRV : Option (Int × Nat) → Value
  | some (p, a) => .agg #[.int .i64 p, .int .i64 (a : Int), .bool true]
  | none => .agg #[.int .i64 (-1), .int .i64 (-1), .bool false]
theorem pre_at {w : World} {g g2 : Nat} {ss : Nat → Value} (h : BookIn w g g2 ss) (k m : Nat) (hk : k < 20) (hm : m < 5) : w.cell? ⟨g2, k * 6 + m, none⟩ = some (.string ⟨(preCodeAt k m).toArray⟩) := by
  have h1 := pres_row h.pres k hk m _ (preCode_cell k m hm)
  rw [Nat.zero_add] at h1
  exact h1
end Go.Proofs.YtaakaajcpjiccaaDoor
