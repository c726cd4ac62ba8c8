/-
  The law's own: spoilt.
-/
import Derived.Test.YteiialpecaebdaaDoorRo
import Derived.Deep.AppendLies
import Derived.IntWalk
import Derived.Deep.RegionLaw
set_option linter.unusedVariables false
set_option linter.unusedSimpArgs false
namespace Go.Proofs.YteiialpecaebdaaDoor
open Go.RowKit
open Go.Proofs
open Tree

theorem stepsL_set : ∀ (t : List StepD) (i j : Nat) (hi : i < t.length) (u : Value) (x : StepD), j < 6 → stepL x = (stepL t[i]).set j u → (stepsL t).set (i * 6 + j) u = stepsL (t.set i x)
  | [], i, j, hi, _, _, _, _ => by simp at hi
  | y :: t, 0, j, _, u, x, hj, h => by
    have e : stepsL (y :: t) = stepL y ++ stepsL t := rfl
    have e2 : stepsL ((y :: t).set 0 x) = stepL x ++ stepsL t := rfl
    rw [e, e2, h, Nat.zero_mul, Nat.zero_add, List.set_append_left _ _ (by simpa [stepL] using hj)]
    rfl
  | y :: t, i + 1, j, hi, u, x, hj, h => by
    have e : stepsL (y :: t) = stepL y ++ stepsL t := rfl
    have e2 : stepsL ((y :: t).set (i + 1) x) = stepL y ++ stepsL (t.set i x) := rfl
    have hl : (stepL y).length = 6 := rfl
    rw [e, e2, List.set_append_right _ _ (by omega), ← stepsL_set t i j (by simpa using hi) u x hj h]
    congr 2
    omega
def SpOk (w : World) (n : Nat) (e : Ending) (w' : World) : Prop := ∃ (v : Value) (t : List StepD), e = .returned v ∧ Own w' w.heap.size v t ∧ Texts t ∧ t.length ≤ n + 1 ∧ Below w.heap.size w w'
abbrev turnV (how at_ n : Int) (text : ByteArray) : Value := .agg #[.int .i64 how, .int .i64 at_, .int .i64 n, .string text]
theorem own_made (w : World) (B : Nat) (h : B ≤ w.heap.size) : Own (w.alloc (.cells #[] 35)) B (.slice (some ⟨w.heap.size, 0, none⟩) 0 0) [] := World.ownsRow_made w #[] 0 h (by unfold maxLen; omega) (by simp)
set_option maxHeartbeats 1000000 in
theorem spoilt_nil (a : Option Addr) (c : Nat) (how at_ n : Int) (text : ByteArray) (w : World) :
    Calls Tryd.prog 11 #[.slice a 0 c, turnV how at_ n text] w (SpOk w 0) := by
  obtain ⟨i0, hi, hz0, hz1, hz2⟩ := info_parts info_S
  cases a with
  | none =>
    go_enter Tryd.func11, Tryd.ntmps11
    go_wp2_with fail
    go_ret
    exact ⟨_, [], rfl, by simpa using own_made (w.alloc (.cells #[.int .i64 how, .int .i64 at_, .int .i64 n, .string text] 24)) w.heap.size (by simp), (fun _ h => by cases h), Nat.zero_le _, bel2 (belA w _) (belA _ _)⟩
  | some ad =>
    go_enter Tryd.func11, Tryd.ntmps11
    go_wp2_with fail
    go_ret
    exact ⟨_, [], rfl, by simpa using own_made (w.alloc (.cells #[.int .i64 how, .int .i64 at_, .int .i64 n, .string text] 24)) w.heap.size (by simp), (fun _ h => by cases h), Nat.zero_le _, bel2 (belA w _) (belA _ _)⟩
theorem Texts.set {t : List StepD} {i : Nat} {x : StepD} (h : Texts t) (hx : x.text.size ≤ maxLen) : Texts (t.set i x) := fun y hy => by
  rcases List.mem_or_eq_of_mem_set hy with hy | rfl
  · exact h y hy
  · exact hx
theorem sp_set {w w2 : World} {g k cap i j : Nat} {t : List StepD} (HO : Own w2 w.heap.size (.slice (some ⟨g, 0, none⟩) (k + 1) cap) t) (HB : Below w.heap.size w w2) (hX : Texts t) (hk : t.length = k + 1) (hi : i < t.length) (hj : j < 6) (u : Value) (x : StepD) (hx : stepL x = (stepL t[i]).set j u) (htx : x.text.size ≤ maxLen) :
    SpOk w (k + 1) (.returned (.slice (some ⟨g, 0, none⟩) (k + 1) cap)) (w2.setCell ⟨g, i * 6 + j, none⟩ u) := by
  have hO2 : w2.ownsRow w.heap.size 35 6 (.slice (some ⟨g, 0, none⟩) (k + 1) cap) (k + 1) (stepsL t) := by
    have h := HO
    unfold Own at h
    rw [hk] at h
    exact h
  obtain ⟨h1, h2⟩ := hO2.stored (i * 6 + j) u
  rw [stepsL_set t i j hi u x hj hx] at h1
  refine ⟨_, t.set i x, rfl, ?_, hX.set htx, by rw [List.length_set]; omega, HB.setCell (p := ⟨g, i * 6 + j, none⟩) ?_ _⟩
  · show World.ownsRow _ _ _ _ _ _ _
    rw [List.length_set, hk]
    exact h1
  · exact own_ge HO g rfl
theorem own_range {w : World} {B g k cap : Nat} {t : List StepD} (h : Own w B (.slice (some ⟨g, 0, none⟩) (k + 1) cap) t) (hk : t.length = k + 1) : w.rangeAt g 0 (stepsL t) ∧ (∀ j, w.frozen? ⟨g, j, none⟩ = false) := by
  unfold Own at h
  rw [hk] at h
  refine ⟨fun j v hj => ?_, fun j => h.frozenAt j⟩
  have := h.cells (g := g) rfl j v hj
  rw [addPlain] at this
  rw [Nat.zero_add]; exact this
theorem own_cap {w : World} {B g k cap : Nat} {t : List StepD} (h : Own w B (.slice (some ⟨g, 0, none⟩) (k + 1) cap) t) : t.length ≤ cap := by
  obtain ⟨a, c, h1, _, h3⟩ := own_sl h
  simp only [Value.slice.injEq] at h1
  omega
theorem step_own {P : Program} {ops : Array Oper} {o : Oper} {a : Act} {w : World} {K : Act → World → Prop} {Q : Exit → Act → World → Prop} {E : Prop} (hw : Region.wanted o (yielded ops a.tmps) = true) (s x : Operand) (t : TypeId)
    (ho : o.op = .call { callee := .builtin .append, args := #[s, x], argTypes := #[t, t] })
    (base : Nat) (e : TypeId) (i : TypeInfo) (z : Value) (size bytes : Nat) (ht : P.underlying t = some (.slice e)) (hi : P.info? e = some i) (hz : i.zero = some z)
    (hsize : i.size = size) (hby : i.bytes = bytes) (hzs : z.cells.size = size) (hsz : 0 < size)
    (v : Value) (n : Nat) (xs : List Value) (hs : a.eval s = v) (hown : w.ownsRow base e size v n xs)
    (ad : Addr) (m c : Nat) (news : List Value) (hx : a.eval x = .slice (some ad) m c) (hl : news.length = m * size) (hnews : ∀ j u, news[j]? = some u → w.cell? (ad.add j) = some u) (h1 : ∀ u ∈ news, u.oneCell' = true)
    (h63 : n + m ≤ maxLen) (hbytes : (n + m) * bytes ≤ 140737488355328) (hbase : base ≤ w.heap.size)
    (h : ∀ v' w', w'.ownsRow base e size v' (n + m) (xs ++ news) → w.grownBy w' v.ownBlock → (v' = .slice none 0 0 ↔ v = .slice none 0 0 ∧ m = 0) → K (a.put o.dst v') w') :
    if Region.wanted o (yielded ops a.tmps) = true then Oper.wp P o a w K Q else E := by
  rw [if_pos hw]
  exact wp_append_own w s x t ho base e i z size bytes ht hi hz hsize hby hzs hsz v n xs hs hown ad m c news hx hl hnews h1 h63 hbytes hbase h
theorem own_part {w : World} {B g k cap i : Nat} {t : List StepD} (h : Own w B (.slice (some ⟨g, 0, none⟩) (k + 1) cap) t) (hk : t.length = k + 1) (hi : i ≤ k + 1) : w.drew.ownsRow B 35 6 (.slice (some ⟨g, 0, none⟩) i cap) i ((stepsL t).take (i * 6)) := by
  unfold Own at h
  rw [hk] at h
  have hl : (stepsL t).length = t.length * 6 := stepsL_length t
  refine ⟨by rw [List.length_take, hl, hk]; omega, ?_⟩
  rcases h.2 with ⟨h', _⟩ | ⟨g', cap', cur, h', hb, hg, hnc, hcm, hcs, htake⟩
  · simp at h'
  · simp only [Value.slice.injEq, Option.some.injEq, Addr.mk.injEq, and_true, true_and] at h'
    obtain ⟨rfl, rfl⟩ := h'
    refine .inr ⟨g, cap, cur, rfl, hb, hg, by omega, hcm, hcs, ?_⟩
    rw [← htake, List.take_take, Nat.min_eq_left (by omega)]
theorem own_tail {w : World} {B g k cap : Nat} {t : List StepD} (h : Own w B (.slice (some ⟨g, 0, none⟩) (k + 1) cap) t) (hk : t.length = k + 1) (i : Nat) : ∀ j u, (stepsL (t.drop i))[j]? = some u → w.drew.cell? ((⟨g, i * 6, none⟩ : Addr).add j) = some u := by
  obtain ⟨hr, _⟩ := own_range h hk
  intro j u hu
  rw [Addr.add_mid]
  have e : stepsL t = stepsL (t.take i) ++ stepsL (t.drop i) := by rw [← stepsL_append, List.take_append_drop]
  by_cases hi : i ≤ t.length
  · rw [e] at hr
    have h2 := range_right hr
    rw [stepsL_length, List.length_take, Nat.min_eq_left hi, Nat.zero_add] at h2
    exact h2 j u hu
  · rw [List.drop_eq_nil_of_le (by omega)] at hu
    cases hu
theorem stepsL_take (t : List StepD) (i : Nat) : stepsL (t.take i) = (stepsL t).take (i * 6) := by
  by_cases hi : i ≤ t.length
  · have e : stepsL t = stepsL (t.take i) ++ stepsL (t.drop i) := by rw [← stepsL_append, List.take_append_drop]
    rw [e, List.take_left' (by rw [stepsL_length, List.length_take, Nat.min_eq_left hi])]
  · rw [List.take_of_length_le (by omega), List.take_of_length_le (by rw [stepsL_length]; omega)]
theorem sp_cut {w w2 w4 : World} {g k i c : Nat} {t : List StepD} {v' : Value} (HB : Below w.heap.size w w2) (hX : Texts t) (hk : t.length = k + 1) (hi : i < k + 1) (hown : w4.ownsRow w.heap.size 35 6 v' (i + (k - i)) ((stepsL t).take (i * 6) ++ stepsL (t.drop (i + 1)))) (hgrow : w2.drew.grownBy w4 (Value.slice (some ⟨g, 0, none⟩) i c).ownBlock) (hg : w.heap.size ≤ g) :
    SpOk w (k + 1) (.returned v') w4 := by
  refine ⟨v', t.take i ++ t.drop (i + 1), rfl, ?_, fun y hy => ?_, ?_, HB.drew.grown hgrow HB.size (fun q hq => by simp [Value.ownBlock] at hq; omega)⟩
  · show World.ownsRow _ _ _ _ _ _ _
    rw [stepsL_append, stepsL_take, List.length_append, List.length_take, List.length_drop, hk, Nat.min_eq_left (by omega), show k + 1 - (i + 1) = k - i by omega]
    exact hown
  · rcases List.mem_append.1 hy with hy | hy
    · exact hX y (List.mem_of_mem_take hy)
    · exact hX y (List.mem_of_mem_drop hy)
  · rw [List.length_append, List.length_take, List.length_drop]; omega
theorem own_step {w : World} {B g k cap i : Nat} {t : List StepD} (h : Own w B (.slice (some ⟨g, 0, none⟩) (k + 1) cap) t) (hk : t.length = k + 1) (hi : i < t.length) : w.rangeAt g (i * 6) (stepL t[i]) := by
  have := step_range (own_range h hk).1 i hi
  rw [Nat.zero_add] at this
  exact this
theorem _root_.Go.World.rangeAt.alloc' {w : World} {g o : Nat} {cs : List Value} (h : w.rangeAt g o cs) (u : Obj) : (w.alloc u).rangeAt g o cs := fun j v hj => cellAlloc u (h j v hj)
theorem own_there {w : World} {B g k cap i : Nat} {t : List StepD} (h : Own w B (.slice (some ⟨g, 0, none⟩) (k + 1) cap) t) (hk : t.length = k + 1) (hi : i < t.length) : w.there g (i * 6) 6 := fun j hj => by
  have hs := own_step h hk hi
  have hl : j < (stepL t[i]).length := hj
  have := hs j _ (List.getElem?_eq_getElem hl)
  exact ⟨by rw [this]; rfl, (own_range h hk).2 _⟩
theorem own_set1 {w : World} {B g k cap i j : Nat} {t : List StepD} {y x : StepD} {u : Value} (h : Own w B (.slice (some ⟨g, 0, none⟩) (k + 1) cap) t) (hk : t.length = k + 1) (hy : t[i]? = some y) (hj : j < 6) (hx : stepL x = (stepL y).set j u) :
    Own (w.setCell ⟨g, i * 6 + j, none⟩ u) B (.slice (some ⟨g, 0, none⟩) (k + 1) cap) (t.set i x) ∧ (t.set i x).length = k + 1 ∧ (t.set i x)[i]? = some x := by
  obtain ⟨hi, hy⟩ := List.getElem?_eq_some_iff.1 hy
  have hO2 : w.ownsRow B 35 6 (.slice (some ⟨g, 0, none⟩) (k + 1) cap) (k + 1) (stepsL t) := by
    have h2 := h
    unfold Own at h2
    rw [hk] at h2
    exact h2
  obtain ⟨h1, _⟩ := hO2.stored (i * 6 + j) u
  rw [stepsL_set t i j hi u x hj (by rw [hy]; exact hx)] at h1
  refine ⟨?_, by rw [List.length_set]; exact hk, by rw [List.getElem?_set_self hi]⟩
  show World.ownsRow _ _ _ _ _ _ _
  rw [List.length_set, hk]
  exact h1
theorem own_setStep {w : World} {B g k cap i : Nat} {t : List StepD} (h : Own w B (.slice (some ⟨g, 0, none⟩) (k + 1) cap) t) (hk : t.length = k + 1) (hi : i < t.length) (x : StepD) :
    Own (w.setCells g (i * 6) (stepL x)) B (.slice (some ⟨g, 0, none⟩) (k + 1) cap) (t.set i x) := by
  obtain ⟨op, pre, atom, n, num, text⟩ := x
  have hy := List.getElem?_eq_getElem hi
  obtain ⟨a1, b1, c1⟩ := own_set1 h hk hy (j := 0) (by omega) (u := .int .i64 op) (x := ⟨op, t[i].pre, t[i].atom, t[i].n, t[i].num, t[i].text⟩) rfl
  obtain ⟨a2, b2, c2⟩ := own_set1 a1 b1 c1 (j := 1) (by omega) (u := .int .i64 pre) (x := ⟨op, pre, t[i].atom, t[i].n, t[i].num, t[i].text⟩) rfl
  obtain ⟨a3, b3, c3⟩ := own_set1 a2 b2 c2 (j := 2) (by omega) (u := .int .i64 atom) (x := ⟨op, pre, atom, t[i].n, t[i].num, t[i].text⟩) rfl
  obtain ⟨a4, b4, c4⟩ := own_set1 a3 b3 c3 (j := 3) (by omega) (u := .int .i64 n) (x := ⟨op, pre, atom, n, t[i].num, t[i].text⟩) rfl
  obtain ⟨a5, b5, c5⟩ := own_set1 a4 b4 c4 (j := 4) (by omega) (u := .int .i64 num) (x := ⟨op, pre, atom, n, num, t[i].text⟩) rfl
  obtain ⟨a6, b6, c6⟩ := own_set1 a5 b5 c5 (j := 5) (by omega) (u := .string text) (x := ⟨op, pre, atom, n, num, text⟩) rfl
  simp only [List.set_set] at a6
  exact a6
theorem belSets {B g : Nat} {w : World} : ∀ {w1 : World} (h : Below B w w1) (hg : B ≤ g) (vs : List Value) (o : Nat), Below B w (w1.setCells g o vs) := by
  intro w1 h hg vs
  induction vs generalizing w1 with
  | nil => intro o; exact h
  | cons v r ih => intro o; exact ih (h.setCell (p := ⟨g, o, none⟩) hg v) (o + 1)
set_option maxHeartbeats 4000000 in
theorem spoilt_yes (gs os c k : Nat) (how at_ n : Int) (text : ByteArray) (t : List StepD) (w : World) (hk : t.length = k + 1) (hX : Texts t) (hr : w.rangeAt gs os (stepsL t)) (hl : k ≤ 900) (hc : k + 1 ≤ c) (htx : text.size ≤ maxLen) :
    Calls Tryd.prog 11 #[.slice (some ⟨gs, os, none⟩) (k + 1) c, turnV how at_ n text] w (SpOk w (k + 1)) := by
  obtain ⟨i0, hi, hz0, hz1, hz2⟩ := info_parts info_S
  have hgs : gs < w.heap.size := range_lt hr (by
    intro e
    have h1 := congrArg List.length e
    rw [stepsL_length] at h1
    simp only [List.length_nil] at h1
    omega)
  have HR := Lib.hid hr
  have HLN : Hid ((stepsL t).length = (k + 1) * 6) := by show (stepsL t).length = _; rw [stepsL_length, hk]
  have HX := Lib.hid hX
  have HMD : Hid (Own ((w.alloc (.cells #[.int .i64 how, .int .i64 at_, .int .i64 n, .string text] 24)).alloc (.cells #[] 35)) w.heap.size (.slice (some ⟨w.heap.size + 1, 0, none⟩) 0 0) []) := by
    have := own_made (w.alloc (.cells #[.int .i64 how, .int .i64 at_, .int .i64 n, .string text] 24)) w.heap.size (by simp)
    have e : (w.alloc (.cells #[.int .i64 how, .int .i64 at_, .int .i64 n, .string text] 24)).heap.size = w.heap.size + 1 := by simp
    rw [e] at this
    exact this
  have HCL : Hid (((w.alloc (.cells #[.int .i64 how, .int .i64 at_, .int .i64 n, .string text] 24)).alloc (.cells #[] 35)).rangeAt gs os (stepsL t)) := rangeAt_below (rangeAt_below hr (belA w _) hgs) (belA _ _) (by simp; omega)
  clear hr hX
  go_enter Tryd.func11, Tryd.ntmps11
  go_wp2_with (at_builtin; refine wpList_append_own _ rfl _ _ 27 rfl w.heap.size 35 i0 _ 6 56 Tryd.underlying27 hi hz0 hz1 hz2 rfl (by decide) _ 0 [] rfl HMD.out ⟨gs, os, none⟩ (k + 1) c (stepsL t) rfl HLN.out (cellsOf HCL.out) (stepsL_one _) ?_ ?_ ?_ ?_)
  · unfold maxLen; omega
  · omega
  · simp; omega
  · intro v w2 hown hgrow hnil
    obtain ⟨g, cap, rfl⟩ := form_of hown (by omega)
    have htc : ∀ (j : Nat) (u : Value), (#[.int .i64 how, .int .i64 at_, .int .i64 n, .string text] : Array Value)[j]? = some u → w2.cell? ⟨w.heap.size, j, none⟩ = some u := fun j u hu => by
      have h1 := cellAlloc (.cells #[] 35) (cellNew w _ 24 j u hu)
      have h2 := hgrow.block w.heap.size (by simp; omega) (by simp [Value.ownBlock])
      simp only [World.cell?] at h1 ⊢
      rw [h2]; exact h1
    have t0 := htc 0 _ rfl
    have t1 := htc 1 _ rfl
    have t2 := htc 2 _ rfl
    have t3 := htc 3 _ rfl
    have HO : Hid (Own w2 w.heap.size (.slice (some ⟨g, 0, none⟩) (k + 1) cap) t) := by
      show w2.ownsRow _ _ _ _ t.length _
      rw [hk]
      simpa using hown
    have HB : Hid (Below w.heap.size w w2) := ((belA w _).alloc (by simp) _).grown hgrow (by simp; omega) (fun q hq => by simp [Value.ownBlock] at hq; omega)
    clear hown hgrow hnil htc
    have hrest := fun x w => rest_any x ((k : Int) + 1) w (by omega) (by omega)
    have hrest9 := fun x w => rest_any x 9 w (by omega) (by omega)
    go_wp2_with fail
    refine (hrest _ _).mono ?_
    rintro e w3 ⟨rfl, hw⟩
    subst w3
    obtain ⟨i, hi0, hik⟩ : ∃ i : Nat, at_ % ((k : Int) + 1) = i ∧ i < k + 1 := by
      have h1 := Int.emod_nonneg at_ (show (k : Int) + 1 ≠ 0 by omega)
      have h2 := Int.emod_lt_of_pos at_ (show (0 : Int) < (k : Int) + 1 by omega)
      exact ⟨(at_ % ((k : Int) + 1)).toNat, by omega, by omega⟩
    rw [hi0]
    go_wp2_with fail
    refine (hrest9 _ _).mono ?_
    rintro e w3 ⟨rfl, hw⟩
    subst w3
    have h9 : how % 9 = 0 ∨ how % 9 = 1 ∨ how % 9 = 2 ∨ how % 9 = 3 ∨ how % 9 = 4 ∨ how % 9 = 5 ∨ how % 9 = 6 ∨ how % 9 = 7 ∨ how % 9 = 8 := by omega
    have hit : i < t.length := by omega
    obtain ⟨hrg, hfz⟩ := own_range HO.out hk
    have hst := step_range hrg i hit
    rw [Nat.zero_add] at hst
    have s0 : w2.cell? ⟨g, i * 6, none⟩ = some (.int .i64 t[i].op) := hst 0 _ rfl
    have s1 : w2.cell? ⟨g, i * 6 + 1, none⟩ = some (.int .i64 t[i].pre) := hst 1 _ rfl
    have s2 : w2.cell? ⟨g, i * 6 + 2, none⟩ = some (.int .i64 t[i].atom) := hst 2 _ rfl
    have s3 : w2.cell? ⟨g, i * 6 + 3, none⟩ = some (.int .i64 t[i].n) := hst 3 _ rfl
    have s4 : w2.cell? ⟨g, i * 6 + 4, none⟩ = some (.int .i64 t[i].num) := hst 4 _ rfl
    have s5 : w2.cell? ⟨g, i * 6 + 5, none⟩ = some (.string t[i].text) := hst 5 _ rfl
    have hga := Lib.hid hrg
    have htxt := HX.out t[i] (List.getElem_mem hit)
    clear hrg hst
    rcases h9 with h9 | h9 | h9 | h9 | h9 | h9 | h9 | h9 | h9
    · rw [h9]
      clear h9
      go_wp2_with fail
      go_ret
      exact sp_set (i := i) (j := 0) HO.out HB.out HX.out hk (by omega) (by omega) (.int .i64 n) ⟨n, t[i].pre, t[i].atom, t[i].n, t[i].num, t[i].text⟩ rfl htxt
    · rw [h9]
      clear h9
      go_wp2_with fail
      go_ret
      exact sp_set (i := i) (j := 1) HO.out HB.out HX.out hk (by omega) (by omega) (.int .i64 n) ⟨t[i].op, n, t[i].atom, t[i].n, t[i].num, t[i].text⟩ rfl htxt
    · rw [h9]
      clear h9
      go_wp2_with fail
      go_ret
      exact sp_set (i := i) (j := 2) HO.out HB.out HX.out hk (by omega) (by omega) (.int .i64 n) ⟨t[i].op, t[i].pre, n, t[i].n, t[i].num, t[i].text⟩ rfl htxt
    · rw [h9]
      clear h9
      go_wp2_with fail
      go_ret
      exact sp_set (i := i) (j := 3) HO.out HB.out HX.out hk (by omega) (by omega) (.int .i64 n) ⟨t[i].op, t[i].pre, t[i].atom, n, t[i].num, t[i].text⟩ rfl htxt
    · rw [h9]
      clear h9
      go_wp2_with fail
      go_ret
      exact sp_set (i := i) (j := 4) HO.out HB.out HX.out hk (by omega) (by omega) (.int .i64 n) ⟨t[i].op, t[i].pre, t[i].atom, t[i].n, n, t[i].text⟩ rfl htxt
    · rw [h9]
      clear h9
      go_wp2_with fail
      go_ret
      exact sp_set (i := i) (j := 5) HO.out HB.out HX.out hk (by omega) (by omega) (.string text) ⟨t[i].op, t[i].pre, t[i].atom, t[i].n, t[i].num, text⟩ rfl htx
    · rw [h9]
      clear h9
      have q1 : i ≤ cap := by have := own_cap HO.out; omega
      have q3 : k + 1 ≤ cap := by have := own_cap HO.out; omega
      have q2 : ((i : Int) + 1).toNat = i + 1 := by omega
      have q4 : (i : Int) ≤ cap := by omega
      have q5 : (i : Int) + 1 ≤ (k : Int) + 1 := by omega
      have q6 : k + 1 - (i + 1) = k - i := by omega
      have q7 : 0 ≤ (i : Int) + 1 := by omega
      have q9 : i ≤ k := by omega
      have q11 : IntKind.i64.wrap ((i : Int) + 1) = (i : Int) + 1 := IntWalk.i64_in _ (by omega)
      have HPD : Hid (w2.drew.ownsRow w.heap.size 35 6 (.slice (some ⟨g, 0, none⟩) i cap) i ((stepsL t).take (i * 6))) := own_part HO.out hk (by omega)
      have HCD : Hid (cap ≠ i + 1 → ∀ j u, (stepsL (t.drop (i + 1)))[j]? = some u → w2.drew.cell? ((⟨g, (i + 1) * 6, none⟩ : Addr).add j) = some u) := fun _ => own_tail HO.out hk (i + 1)
      by_cases q8 : cap = i + 1
      · subst q8
        have q10 : (i : Int) ≤ (i : Int) + 1 := by omega
        go_wp2_with fail
        go_region_law ((refine step_own (by simp [Region.wanted]) _ _ 27 rfl w.heap.size 35 i0 _ 6 56 Tryd.underlying27 hi hz0 hz1 hz2 (by rfl) (by decide) _ i ((stepsL t).take (i * 6)) (by simp [Act.eval, Act.put]) HPD.out ⟨g, 0, none⟩ (k - i) (0) (stepsL (t.drop (i + 1))) (by simp [Act.eval, Act.put]) (by rw [stepsL_length, List.length_drop]; omega) (fun j u hu => by have : t.drop (i + 1) = [] := List.drop_eq_nil_of_le (by omega); rw [this] at hu; cases hu) (stepsL_one _) (by unfold maxLen; omega) (by omega) (by have := HB.out.size; simpa using this) ?_; intro v' w4 hown hgrow hnil))
        all_goals
          go_wp2_with fail
          go_ret
          exact sp_cut HB.out HX.out hk hik hown hgrow (own_ge HO.out g rfl)
      · go_wp2_with fail
        go_region_law ((refine step_own (by simp [Region.wanted]) _ _ 27 rfl w.heap.size 35 i0 _ 6 56 Tryd.underlying27 hi hz0 hz1 hz2 (by rfl) (by decide) _ i ((stepsL t).take (i * 6)) (by simp [Act.eval, Act.put]) HPD.out ⟨g, (i + 1) * 6, none⟩ (k - i) (cap - (i + 1)) (stepsL (t.drop (i + 1))) (by simp [Act.eval, Act.put]) (by rw [stepsL_length, List.length_drop]; omega) (HCD.out q8) (stepsL_one _) (by unfold maxLen; omega) (by omega) (by have := HB.out.size; simpa using this) ?_; intro v' w4 hown hgrow hnil))
        all_goals
          go_wp2_with fail
          go_ret
          exact sp_cut HB.out HX.out hk hik hown hgrow (own_ge HO.out g rfl)
    · rw [h9]
      clear h9
      have HO7 : Hid (w2.ownsRow w.heap.size 35 6 (.slice (some ⟨g, 0, none⟩) (k + 1) cap) (k + 1) (stepsL t)) := by
        have h : w2.ownsRow _ _ _ _ t.length _ := HO.out
        rw [hk] at h
        exact h
      go_wp2_with (at_builtin; refine wpList_append_own _ rfl _ _ 27 rfl w.heap.size 35 i0 _ 6 56 Tryd.underlying27 hi hz0 hz1 hz2 rfl (by decide) _ (k + 1) (stepsL t) rfl (HO7.out.alloc _) ⟨_, 0, none⟩ 1 1 (stepL t[i]) rfl rfl (lit_cells _ _) (stepL_one _) ?_ ?_ ?_ ?_)
      · unfold maxLen; omega
      · omega
      · have := HB.out.size; simp; omega
      · intro v' w4 hown hgrow hnil
        go_wp2_with fail
        go_ret
        refine ⟨v', t ++ [t[i]], rfl, ?_, fun y hy => ?_, by rw [List.length_append, hk]; simp, (bel2 HB.out (belA w2 _)).grown hgrow (by have := HB.out.size; simp; omega) (fun q hq => own_ge HO.out q hq)⟩
        · show World.ownsRow _ _ _ _ _ _ _
          rw [stepsL_snoc, List.length_append, hk]
          exact hown
        · rcases List.mem_append.1 hy with hy | hy
          · exact HX.out y hy
          · obtain rfl := List.mem_singleton.1 hy
            exact htxt
    · rw [h9]
      clear h9
      obtain ⟨j, hj0, hjk⟩ : ∃ j : Nat, ((i : Int) + 1).tmod ((k : Int) + 1) = j ∧ j < k + 1 := by
        rw [Int.tmod_eq_emod_of_nonneg (by omega)]
        have h1 := Int.emod_nonneg ((i : Int) + 1) (show (k : Int) + 1 ≠ 0 by omega)
        have h2 := Int.emod_lt_of_pos ((i : Int) + 1) (show (0 : Int) < (k : Int) + 1 by omega)
        exact ⟨(((i : Int) + 1) % ((k : Int) + 1)).toNat, by omega, by omega⟩
      have hjt : j < t.length := by omega
      have hne : ((k : Int) + 1 == 0) = false := by simp; omega
      obtain ⟨x, hx⟩ : ∃ x, t[i]? = some x := ⟨_, List.getElem?_eq_getElem hit⟩
      obtain ⟨y, hy⟩ : ∃ y, t[j]? = some y := ⟨_, List.getElem?_eq_getElem hjt⟩
      obtain ⟨_, hx⟩ := List.getElem?_eq_some_iff.1 hx
      obtain ⟨_, hy⟩ := List.getElem?_eq_some_iff.1 hy
      have HY := Lib.hid hy
      have hsi := own_step HO.out hk hit
      have hsj := own_step HO.out hk hjt
      rw [hx] at hsi htxt
      rw [hy] at hsj
      have htj : y.text.size ≤ maxLen := by rw [← hy]; exact HX.out t[j] (List.getElem_mem hjt)
      clear s0 s1 s2 s3 s4 s5 hy hx
      obtain ⟨xo, xp, xa, xn, xm, xt⟩ := x
      obtain ⟨yo, yp, ya, yn, ym, yt⟩ := y
      have HA : Hid (w2.rangeAt g (i * 6) [.int .i64 xo, .int .i64 xp, .int .i64 xa, .int .i64 xn, .int .i64 xm, .string xt]) := hsi
      have HJ : Hid (w2.rangeAt g (j * 6) [.int .i64 yo, .int .i64 yp, .int .i64 ya, .int .i64 yn, .int .i64 ym, .string yt]) := hsj
      have hg2 : g < w2.heap.size := (World.ownsRow.lt HO.out g rfl).2
      have HJ3 : Hid ((w2.alloc (.cells #[.int .i64 xo, .int .i64 xp, .int .i64 xa, .int .i64 xn, .int .i64 xm, .string xt] 35)).rangeAt g (j * 6) [.int .i64 yo, .int .i64 yp, .int .i64 ya, .int .i64 yn, .int .i64 ym, .string yt]) := rangeAt_below hsj (belA w2 _) hg2
      have HI3 : Hid ((w2.alloc (.cells #[.int .i64 xo, .int .i64 xp, .int .i64 xa, .int .i64 xn, .int .i64 xm, .string xt] 35)).there g (i * 6) 6) := Lib.hid (own_there (HO.out.alloc (.cells #[.int .i64 xo, .int .i64 xp, .int .i64 xa, .int .i64 xn, .int .i64 xm, .string xt] 35)) hk hit)
      have HW : Hid (Own ((w2.alloc (.cells #[.int .i64 xo, .int .i64 xp, .int .i64 xa, .int .i64 xn, .int .i64 xm, .string xt] 35)).setCells g (i * 6) (#[.int .i64 yo, .int .i64 yp, .int .i64 ya, .int .i64 yn, .int .i64 ym, .string yt] : Array Value).toList) w.heap.size (.slice (some ⟨g, 0, none⟩) (k + 1) cap) (t.set i ⟨yo, yp, ya, yn, ym, yt⟩)) := own_setStep (HO.out.alloc (.cells #[.int .i64 xo, .int .i64 xp, .int .i64 xa, .int .i64 xn, .int .i64 xm, .string xt] 35)) hk hit _
      have HX4 : Hid (((w2.alloc (.cells #[.int .i64 xo, .int .i64 xp, .int .i64 xa, .int .i64 xn, .int .i64 xm, .string xt] 35)).setCells g (i * 6) (#[.int .i64 yo, .int .i64 yp, .int .i64 ya, .int .i64 yn, .int .i64 ym, .string yt] : Array Value).toList).rangeAt w2.heap.size 0 [.int .i64 xo, .int .i64 xp, .int .i64 xa, .int .i64 xn, .int .i64 xm, .string xt]) := World.rangeAt_setCells_apart (fun q v hv => by rw [Nat.zero_add]; exact cellNew w2 _ _ q v (by simpa using hv)) g (i * 6) _ (.inl (by omega))
      have HT4 : Hid (((w2.alloc (.cells #[.int .i64 xo, .int .i64 xp, .int .i64 xa, .int .i64 xn, .int .i64 xm, .string xt] 35)).setCells g (i * 6) (#[.int .i64 yo, .int .i64 yp, .int .i64 ya, .int .i64 yn, .int .i64 ym, .string yt] : Array Value).toList).there g (j * 6) 6) := own_there HW.out (by rw [List.length_set]; exact hk) (by rw [List.length_set]; omega)
      have HB4 : Hid (Below w.heap.size w ((w2.alloc (.cells #[.int .i64 xo, .int .i64 xp, .int .i64 xa, .int .i64 xn, .int .i64 xm, .string xt] 35)).setCells g (i * 6) (#[.int .i64 yo, .int .i64 yp, .int .i64 ya, .int .i64 yn, .int .i64 ym, .string yt] : Array Value).toList)) := belSets (bel2 HB.out (belA w2 _)) (own_ge HO.out g rfl) _ _
      clear hsi hsj
      go_wp2_with (first | (refine wpList_load_mid (by rfl) 35 (.tmp 30) (by rfl) g (i * 6) (by rfl) [.int .i64 xo, .int .i64 xp, .int .i64 xa, .int .i64 xn, .int .i64 xm, .string xt] _ (by exact HA.out) Tryd.underlying35 (by rfl) size_S ?_) | (refine wpList_load_mid (by rfl) 35 (.tmp 36) (by rfl) g (j * 6) (by rfl) [.int .i64 yo, .int .i64 yp, .int .i64 ya, .int .i64 yn, .int .i64 ym, .string yt] _ (by exact HJ3.out) Tryd.underlying35 (by rfl) size_S ?_) | (refine wpList_store_mid (by rfl) 35 (.tmp 38) (.tmp 37) (by rfl) g (i * 6) #[.int .i64 yo, .int .i64 yp, .int .i64 ya, .int .i64 yn, .int .i64 ym, .string yt] (by rfl) (by rfl) (by exact HI3.out) size_S (all_oneCell_toArray (stepL_one ⟨yo, yp, ya, yn, ym, yt⟩)) ?_; generalize ((w2.alloc (.cells #[.int .i64 xo, .int .i64 xp, .int .i64 xa, .int .i64 xn, .int .i64 xm, .string xt] 35)).setCells g (i * 6) (#[.int .i64 yo, .int .i64 yp, .int .i64 ya, .int .i64 yn, .int .i64 ym, .string yt] : Array Value).toList) = w4 at HW HX4 HT4 HB4 ⊢) | (refine wpList_load_mid (by rfl) 35 (.tmp 7) (by rfl) w2.heap.size 0 (by rfl) [.int .i64 xo, .int .i64 xp, .int .i64 xa, .int .i64 xn, .int .i64 xm, .string xt] _ (by exact HX4.out) Tryd.underlying35 (by rfl) size_S ?_) | (refine wpList_store_mid (by rfl) 35 (.tmp 42) (.tmp 41) (by rfl) g (j * 6) #[.int .i64 xo, .int .i64 xp, .int .i64 xa, .int .i64 xn, .int .i64 xm, .string xt] (by rfl) (by rfl) (by exact HT4.out) size_S (all_oneCell_toArray (stepL_one ⟨xo, xp, xa, xn, xm, xt⟩)) ?_))
      go_ret
      have HZ : Own (w4.setCells g (j * 6) [.int .i64 xo, .int .i64 xp, .int .i64 xa, .int .i64 xn, .int .i64 xm, .string xt]) w.heap.size (.slice (some ⟨g, 0, none⟩) (k + 1) cap) ((t.set i ⟨yo, yp, ya, yn, ym, yt⟩).set j ⟨xo, xp, xa, xn, xm, xt⟩) := own_setStep (i := j) HW.out (by rw [List.length_set]; exact hk) (by rw [List.length_set]; omega) ⟨xo, xp, xa, xn, xm, xt⟩
      exact ⟨_, _, rfl, HZ, (HX.out.set htj).set htxt, by simp only [List.length_set]; omega, belSets HB4.out (own_ge HO.out g rfl) _ _⟩
end Go.Proofs.YteiialpecaebdaaDoor
