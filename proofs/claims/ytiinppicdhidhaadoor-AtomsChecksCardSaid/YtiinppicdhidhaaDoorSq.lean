/-
  The law's own spoilt: the walk.
-/
import Derived.Test.YtiinppicdhidhaaDoorSm
import Derived.Deep.DeepCutAuto
import Derived.Deep.CutBlock
import Derived.Deep.RegionHeld3
import Derived.StillTailTactics
set_option linter.unusedVariables false
set_option linter.unusedSimpArgs false
namespace Go.Proofs.YtiinppicdhidhaaDoor
open Go.RowKit
open Go.Proofs

abbrev turnV (how at_ nn : Int) (text : ByteArray) : Value := .agg #[.int .i64 how, .int .i64 at_, .int .i64 nn, .string text]
/-- What spoilt leaves: a table within greater bounds. -/
def SpOkA (w : World) (n m k : Nat) (e : Ending) (w' : World) : Prop := ∃ a c t T a2 c2 p, e = .returned (.agg #[.slice a t.length c, .slice a2 p.length c2]) ∧ TabK w' a t T a2 p n m k ∧ Below w.heap.size w w'
theorem made_own (w : World) (B : Nat) (e z : Nat) (h : B ≤ w.heap.size) : (w.alloc (.cells #[] e)).ownsRow B e z (.slice (some ⟨w.heap.size, 0, none⟩) 0 0) 0 [] := World.ownsRow_made w #[] 0 h (by unfold maxLen; omega) (by simp)
def rowsOf (t : List AtomD) (T : Nat → List (Int × Int)) : List RowT := (List.range t.length).map fun i => (t[i]?.getD default, T i)
theorem rowsOf_D (t : List AtomD) (T : Nat → List (Int × Int)) : rowsD (rowsOf t T) = t := by
  apply List.ext_getElem
  · simp [rowsD, rowsOf]
  · intro i h1 h2
    simp [rowsD, rowsOf, List.getElem?_eq_getElem h2]
theorem rowsOf_length (t : List AtomD) (T : Nat → List (Int × Int)) : (rowsOf t T).length = t.length := by simp [rowsOf]
theorem rowsOf_mem {t : List AtomD} {T : Nat → List (Int × Int)} {y : RowT} (h : y ∈ rowsOf t T) : ∃ i, ∃ (hi : i < t.length), y = (t[i], T i) := by
  simp only [rowsOf, List.mem_map, List.mem_range] at h
  obtain ⟨i, hi, rfl⟩ := h
  exact ⟨i, hi, by rw [List.getElem?_eq_getElem hi]; rfl⟩
theorem rows_fine {w : World} {a : Option Addr} {t : List AtomD} {T : Nat → List (Int × Int)} {a2 : Option Addr} {p : List PrefD} {n m k : Nat} (h : TabK w a t T a2 p n m k) : ∀ y ∈ rowsOf t T, y.1.tn = y.2.length ∧ TermsIn w y.1.ta y.2 ∧ RowFine k y.1 y.2 := by
  intro y hy
  obtain ⟨i, hi, rfl⟩ := rowsOf_mem hy
  have h1 := h.tab.terms i hi
  have h2 := h.tab.nums i hi
  refine ⟨h1.1, h1.2.1, h2.1, h2.2, fun j => ?_, h.terms i hi⟩
  have := h.tab.texts i j
  rw [csA, List.getElem?_eq_getElem hi] at this
  exact this
theorem prefs_fine {w : World} {a : Option Addr} {t : List AtomD} {T : Nat → List (Int × Int)} {a2 : Option Addr} {p : List PrefD} {n m k : Nat} (h : TabK w a t T a2 p n m k) : ∀ x ∈ p, ∀ j, (codesP x j).size ≤ maxLen := by
  intro x hx j
  obtain ⟨i, hi, rfl⟩ := List.getElem_of_mem hx
  have := h.tab.ptexts i j
  rw [csP, List.getElem?_eq_getElem hi] at this
  exact this
set_option maxRecDepth 100000 in
set_option maxHeartbeats 1000000 in
theorem spoilt_nil (a : Option Addr) (c : Nat) (t : List AtomD) (T : Nat → List (Int × Int)) (a2 : Option Addr) (c2 : Nat) (p : List PrefD) (n m k : Nat) (how at_ nn : Int) (text : ByteArray) (w : World) (h0 : t = [] ∨ p = []) (hT : TabK w a t T a2 p n m k) :
    Calls Tryd.prog 13 #[.agg #[.slice a t.length c, .slice a2 p.length c2], turnV how at_ nn text] w (SpOkA w n m k) := by
  have HT := Lib.hid hT
  clear hT
  have fin : ∀ W : World, Below w.heap.size w W → SpOkA w n m k (.returned (.agg #[.slice a t.length c, .slice a2 p.length c2])) W := fun W hb => ⟨a, c, t, T, a2, c2, p, rfl, ⟨HT.out.tab.below hb, HT.out.atoms, HT.out.prefs, HT.out.terms⟩, hb⟩
  have FIN := Lib.hid fin
  clear fin
  by_cases h1 : t = []
  · subst h1
    clear h0
    go_enter Tryd.func13, Tryd.ntmps13
    go_wp2_with fail
    exact bodyPost_ret (v := .agg #[.slice a 0 c, .slice a2 p.length c2]) (by simp [results, Tryd.results13, go_sem]) rfl (FIN.out _ ((((Below.refl _ _).alloc (Nat.le_refl _) _).alloc (by simp) _).alloc (by simp; omega) _))
  · have h2 : p = [] := h0.resolve_left h1
    have hl : ((t.length : Int) == 0) = false := by simpa using h1
    subst h2
    clear h0 h1
    go_enter Tryd.func13, Tryd.ntmps13
    go_wp2_with fail
    exact bodyPost_ret (v := .agg #[.slice a t.length c, .slice a2 0 c2]) (by simp [results, Tryd.results13, go_sem]) rfl (FIN.out _ ((((Below.refl _ _).alloc (Nat.le_refl _) _).alloc (by simp) _).alloc (by simp; omega) _))
/-- Where the ways meet: the atom's box is told, the table is the call's own. -/
def MidA (w : World) (bt b4 ba i n m k : Nat) (W : World) : Prop := ∃ g cap g2 cap2 l p x ts, StD w W bt b4 ba (.slice (some ⟨g, 0, none⟩) l.length cap) (.slice (some ⟨g2, 0, none⟩) p.length cap2) l p k x ts ∧ i < l.length ∧ l.length ≤ n ∧ p.length = m
theorem sp_final {w W : World} {a : Option Addr} {L c : Nat} {a2 : Option Addr} {P c2 : Nat} {l : List RowT} {p : List PrefD} {n m k : Nat} (h : SpIn w W (.slice a L c) (.slice a2 P c2) l p k) (hL : L = l.length) (hP : P = p.length) (hn : l.length ≤ n) (hm : p.length ≤ m) (hk : k ≤ 10000) : SpOkA w n m k (.returned (.agg #[.slice a L c, .slice a2 P c2])) W := by
  subst hL
  subst hP
  exact ⟨a, c, rowsD l, rowsT l, a2, c2, p, by rw [rowsD_length], h.tab hn hm hk, h.below⟩
theorem two_cells {W : World} {b : Nat} {x y u v : Value} (h0 : W.cell? ⟨b, 0, none⟩ = some u) (h1 : W.cell? ⟨b, 1, none⟩ = some v) : ((W.setCell ⟨b, 0, none⟩ x).setCell ⟨b, 1, none⟩ y).rangeAt b 0 [x, y] := by
  intro j z hj
  rcases j with _ | _ | j
  · cases hj
    exact (World.cell?_setCell_other _ _ _ _ (by simp)).trans (World.cell?_setCell_same' _ _ _ (by rw [h0]; rfl))
  · cases hj
    exact World.cell?_setCell_same' _ _ _ (by rw [World.cell?_setCell_other _ _ _ _ (by simp), h1]; rfl)
  · simp at hj
theorem SpIn.box {w W : World} {va vp : Value} {l : List RowT} {p : List PrefD} {k b : Nat} {cs : Array Value} (h : SpIn w W va vp l p k) (hb : W.heap[b]? = some (.cells cs 27 (0, 0))) (hw : w.heap.size ≤ b) (j : Nat) (u : Value) : SpIn w (W.setCell ⟨b, j, none⟩ u) va vp l p k :=
  h.kept (grownBy_setCell W ⟨b, j, none⟩ u) (own_ne h.atoms hb (by decide)) (own_ne h.prefs hb (by decide)) ⟨_, _, _, hb, by decide⟩ hw
/-- What holds ahead of round r of the loop that adds rows. -/
def LoopA (w W : World) (bt bq b4 ba r tl g2 cap2 k : Nat) (p : List PrefD) (x : AtomD) (ts : List (Int × Int)) (tu : Array Value) : Prop :=
  ∃ (l : List RowT) (g cap : Nat), StD w W bt b4 ba (.slice (some ⟨g, 0, none⟩) l.length cap) (.slice (some ⟨g2, 0, none⟩) p.length cap2) l p k x ts ∧ l.length = tl + r ∧ W.heap[bq]? = some (.cells tu 40 (0, 0))
def zeroA : AtomD := ⟨⟨#[]⟩, ⟨#[]⟩, ⟨#[]⟩, ⟨#[]⟩, ⟨#[]⟩, false, 0, -1, 1, 1, 0, none, 0, 0⟩
theorem zero_row (w W : World) : RowAt w W zeroA [] := ⟨rfl, .inl (.inl rfl)⟩
theorem zero_fine (k : Nat) : RowFine k zeroA [] := ⟨by decide, by decide, fun j => by rcases j with _ | _ | _ | _ | _ | j <;> exact Nat.zero_le _, Nat.zero_le _⟩
theorem mid_of {w W : World} {bt b4 ba g cap L g2 cap2 P : Nat} {l : List RowT} {p : List PrefD} {i n m k : Nat} {x : AtomD} {ts : List (Int × Int)} (h : StD w W bt b4 ba (.slice (some ⟨g, 0, none⟩) L cap) (.slice (some ⟨g2, 0, none⟩) P cap2) l p k x ts) (hL : L = l.length) (hP : P = p.length) (hi : i < l.length) (hn : l.length ≤ n) (hm : p.length = m) : MidA w bt b4 ba i n m k W := by
  subst hL
  subst hP
  exact ⟨g, cap, g2, cap2, l, p, x, ts, h, hi, hn, hm⟩
theorem heap4 (w : World) (o1 o2 o3 o4 : Obj) : ((((w.alloc o1).alloc o2).alloc o3).alloc o4).heap[w.heap.size]? = some o1 ∧ ((((w.alloc o1).alloc o2).alloc o3).alloc o4).heap[w.heap.size + 1]? = some o2 ∧ ((((w.alloc o1).alloc o2).alloc o3).alloc o4).heap[w.heap.size + 1 + 1]? = some o3 := by
  have h2 := heap_alloc_new (w.alloc o1) o2
  have h3 := heap_alloc_new ((w.alloc o1).alloc o2) o3
  simp only [World.size_alloc] at h2 h3
  refine ⟨?_, ?_, ?_⟩
  · rw [heap_alloc_old _ _ (by simp; omega), heap_alloc_old _ _ (by simp; omega), heap_alloc_old _ _ (by simp), heap_alloc_new]
  · rw [heap_alloc_old _ _ (by simp <;> omega), heap_alloc_old _ _ (by simp), h2]
  · rw [heap_alloc_old _ _ (by simp), h3]
theorem sp_mk {w W : World} {va vp : Value} {t : List AtomD} {T : Nat → List (Int × Int)} {p : List PrefD} {k : Nat} (hA : W.ownsRow w.heap.size 33 12 va t.length (atomsL t)) (hP : W.ownsRow w.heap.size 35 6 vp p.length (prefsL p))
    (hrf : ∀ y ∈ rowsOf t T, y.1.tn = y.2.length ∧ TermsIn w y.1.ta y.2 ∧ RowFine k y.1 y.2) (hpf : ∀ x ∈ p, ∀ j, (codesP x j).size ≤ maxLen) (hb : Below w.heap.size w W) : SpIn w W va vp (rowsOf t T) p k :=
  ⟨by rw [rowsOf_length, rowsOf_D]; exact hA, hP, fun y hy => ⟨⟨(hrf y hy).1, .inl (hrf y hy).2.1⟩, (hrf y hy).2.2⟩, hpf, hb⟩
theorem cell_of {W : World} {b j : Nat} {cs : Array Value} {ty : TypeId} {fr : Nat × Nat} {v : Value} (h : W.heap[b]? = some (.cells cs ty fr)) (hv : cs[j]? = some v) : W.cell? ⟨b, j, none⟩ = some v := by
  simp [World.cell?, h, hv]
theorem box_cell {W : World} {b c : Nat} {x : AtomD} {ty : TypeId} {fr : Nat × Nat} (h : W.heap[b]? = some (.cells (atomL x).toArray ty fr)) (hc : c < 12) : ∃ u, W.cell? ⟨b, c, none⟩ = some u := by
  have hl : c < (atomL x).length := hc
  exact ⟨(atomL x)[c], cell_of h (by simp)⟩
theorem free_of {W : World} {b j : Nat} {cs : Array Value} {ty : TypeId} (h : W.heap[b]? = some (.cells cs ty (0, 0))) : W.frozen? ⟨b, j, none⟩ = false := by
  simp [World.frozen?, h]
set_option maxRecDepth 100000 in
set_option maxHeartbeats 8000000 in
theorem spoilt_yes (a : Option Addr) (c : Nat) (t : List AtomD) (T : Nat → List (Int × Int)) (a2 : Option Addr) (c2 : Nat) (p : List PrefD) (n m k : Nat) (how at_ nn : Int) (text : ByteArray) (w : World) (h0 : 0 < t.length) (h00 : 0 < p.length) (hT : TabK w a t T a2 p n m k) (hn : n ≤ 1000) (hm : m ≤ 1000) (hk : k ≤ 1000)
    (htx : text.size ≤ maxLen) (hat : -9223372036854775808 ≤ at_ ∧ at_ ≤ 9223372036854775807) (hnn : -9223372036854775808 ≤ nn ∧ nn ≤ 9223372036854775807) :
    Calls Tryd.prog 13 #[.agg #[.slice a t.length c, .slice a2 p.length c2], turnV how at_ nn text] w (SpOkA w (n + 120) m (k + 1)) := by
  obtain ⟨iA, hiA, zA0, zA1, zA2⟩ := info_parts info_A
  obtain ⟨iP, hiP, zP0, zP1, zP2⟩ := info_parts info_P
  obtain ⟨iT, hiT, zT0, zT1, zT2⟩ := info_parts info_T
  have hrf := rows_fine hT
  have hpf := prefs_fine hT
  have e0 : ((t.length : Int) == 0) = false := by simpa using List.ne_nil_of_length_pos h0
  have e00 : ((p.length : Int) == 0) = false := by simpa using List.ne_nil_of_length_pos h00
  have hln := hT.atoms
  have hpm := hT.prefs
  have HT := Lib.hid hT
  have HRF := Lib.hid hrf
  have HPF := Lib.hid hpf
  have HIT := Lib.hid hiT
  have HIA := Lib.hid hiA
  have HIP := Lib.hid hiP
  have HTX := Lib.hid htx
  have hV0 : Below w.heap.size w ((((w.alloc (.cells #[.slice a t.length c, .slice a2 p.length c2] 27)).alloc (.cells #[.int .i64 how, .int .i64 at_, .int .i64 nn, .string text] 40)).alloc (.cells #[.slice none 0 0, .slice none 0 0] 27))) := (((Below.refl _ _).alloc (Nat.le_refl _) _).alloc (by simp) _).alloc (by simp; omega) _
  have hV1 := hV0.alloc (by simp; omega) (.cells #[] 33)
  have HSA := Lib.hid (src_atoms (HT.out.tab.below hV1).atoms)
  have HMA : Hid (((((w.alloc (.cells #[.slice a t.length c, .slice a2 p.length c2] 27)).alloc (.cells #[.int .i64 how, .int .i64 at_, .int .i64 nn, .string text] 40)).alloc (.cells #[.slice none 0 0, .slice none 0 0] 27)).alloc (.cells #[] 33)).ownsRow w.heap.size 33 12 (.slice (some ⟨w.heap.size + 1 + 1 + 1, 0, none⟩) 0 0) 0 []) := by
    show World.ownsRow _ _ _ _ _ _ _
    have := made_own ((((w.alloc (.cells #[.slice a t.length c, .slice a2 p.length c2] 27)).alloc (.cells #[.int .i64 how, .int .i64 at_, .int .i64 nn, .string text] 40)).alloc (.cells #[.slice none 0 0, .slice none 0 0] 27))) w.heap.size 33 12 (by simp; omega)
    simpa using this
  have HV1 := Lib.hid hV1
  clear hT hrf hpf hV0 hV1 hiT hiA hiP htx
  go_enter Tryd.func13, Tryd.ntmps13
  go_wp2_with (at_builtin; refine list_appG rfl _ _ 24 rfl w.heap.size 33 iA _ 12 152 Tryd.underlying24 HIA.out zA0 zA1 zA2 rfl (by decide) (.slice (some ⟨w.heap.size + 1 + 1 + 1, 0, none⟩) 0 0) 0 [] rfl HMA.out (by simp) a t.length c (atomsL t) rfl HSA.out (atomsL_one t) ?_ ?_ ?_ ?_)
  · unfold maxLen; omega
  · omega
  · simp; omega
  intro v1 w1 hown1 hg1 hne1 hor1
  have hb1 : Below w.heap.size w w1 := HV1.out.grown hg1 (by simp; omega) (fun r e => by simp [Value.ownBlock] at e; omega)
  obtain ⟨q1, q2, q3⟩ := heap4 w (.cells #[.slice a t.length c, .slice a2 p.length c2] 27) (.cells #[.int .i64 how, .int .i64 at_, .int .i64 nn, .string text] 40) (.cells #[.slice none 0 0, .slice none 0 0] 27) (.cells #[] 33)
  have k1 := (hg1.block w.heap.size (by simp; omega) (by simp [Value.ownBlock] <;> omega)).trans q1
  have k2 := (hg1.block (w.heap.size + 1) (by simp) (by simp [Value.ownBlock] <;> omega)).trans q2
  have k3 := (hg1.block (w.heap.size + 1 + 1) (by simp) (by simp [Value.ownBlock] <;> omega)).trans q3
  obtain ⟨g, cap, e1⟩ := form_of hown1 h0
  subst e1
  have hlg := hown1.lt g rfl
  have hs1 := hg1.size
  simp only [World.size_alloc] at hs1
  obtain ⟨X1, hX1⟩ : ∃ X, w1.setCell ⟨w.heap.size, 0, none⟩ (.slice (some ⟨g, 0, none⟩) t.length cap) = X := ⟨_, rfl⟩
  have gX1 := grownBy_setCell w1 ⟨w.heap.size, 0, none⟩ (.slice (some ⟨g, 0, none⟩) t.length cap)
  rw [hX1] at gX1
  have sX1 : X1.heap.size = w1.heap.size := by rw [← hX1]; simp
  have o1 := hown1.kept gX1 (own_ne hown1 k1 (by decide))
  have j1 : X1.heap[w.heap.size]? = some (.cells #[.slice (some ⟨g, 0, none⟩) t.length cap, .slice a2 p.length c2] 27 (0, 0)) := by rw [← hX1, heap_setCell_same w1 w.heap.size 0 _ _ _ k1]; rfl
  have j2 := (gX1.block (w.heap.size + 1) (by omega) (by simp <;> omega)).trans k2
  have j3 := (gX1.block (w.heap.size + 1 + 1) (by omega) (by simp <;> omega)).trans k3
  have bX1 : Below w.heap.size w X1 := hb1.grown gX1 hb1.size (fun r e => by cases e; exact Nat.le_refl _)
  have c0 := cell_of k1 (j := 0) rfl
  have f0 := free_of k1 (j := 0)
  have aP : Below X1.heap.size X1 (X1.alloc (.cells #[] 35)) := (Below.refl _ _).alloc (Nat.le_refl _) _
  have c1 := cell_under (cell_of j1 (j := 1) rfl) aP
  have HMP : Hid ((X1.alloc (.cells #[] 35)).ownsRow w.heap.size 35 6 (.slice (some ⟨X1.heap.size, 0, none⟩) 0 0) 0 []) := made_own X1 w.heap.size 35 6 (by omega)
  have HSP := Lib.hid (src_prefs (HT.out.tab.below (bX1.trans (aP.mono bX1.size))).prefs)
  have HO1 := Lib.hid (ownBelow o1 aP)
  have HJ1 := Lib.hid ((aP.block w.heap.size (by omega)).trans j1)
  have HJ2 := Lib.hid ((aP.block (w.heap.size + 1) (by omega)).trans j2)
  have HJ3 := Lib.hid ((aP.block (w.heap.size + 1 + 1) (by omega)).trans j3)
  have HBX1 := Lib.hid (bX1.trans (aP.mono bX1.size))
  have HSX1 := Lib.hid sX1
  have HS1 := Lib.hid hs1
  clear k1 k2 k3 q1 q2 q3 gX1 sX1 o1 j1 j2 j3 bX1 aP hown1 hg1 hne1 hor1 hb1 hs1
  go_wp2_with (at_builtin; refine list_appG rfl _ _ 25 rfl w.heap.size 35 iP _ 6 88 Tryd.underlying25 HIP.out zP0 zP1 zP2 rfl (by decide) (.slice (some ⟨X1.heap.size, 0, none⟩) 0 0) 0 [] rfl HMP.out (by simp) a2 p.length c2 (prefsL p) rfl HSP.out (prefsL_one p) ?_ ?_ ?_ ?_)
  · unfold maxLen; omega
  · omega
  · simp; have := HSX1.out; have := HS1.out; omega
  intro v2 w2 hown2 hg2 hne2 hor2
  have hs2 := hg2.size
  have zx := HSX1.out
  have z1 := HS1.out
  simp only [World.size_alloc] at hs2
  have nb : ∀ b, b < X1.heap.size → some b ≠ (Value.slice (some ⟨X1.heap.size, 0, none⟩) 0 0).ownBlock := fun b hb e => by simp [Value.ownBlock] at e; omega
  have nb' : ∀ b, b < X1.heap.size → (Value.slice (some ⟨X1.heap.size, 0, none⟩) 0 0).ownBlock ≠ some b := fun b hb e => nb b hb e.symm
  obtain ⟨g2, cap2, e2⟩ := form_of hown2 h00
  subst e2
  have k1 := (hg2.block w.heap.size (by simp; omega) (by first | exact nb _ (by omega) | exact nb' _ (by omega))).trans HJ1.out
  have k2 := (hg2.block (w.heap.size + 1) (by simp; omega) (by first | exact nb _ (by omega) | exact nb' _ (by omega))).trans HJ2.out
  have k3 := (hg2.block (w.heap.size + 1 + 1) (by simp; omega) (by first | exact nb _ (by omega) | exact nb' _ (by omega))).trans HJ3.out
  have hb2 : Below w.heap.size w w2 := HBX1.out.grown hg2 (by simp; omega) (fun r e => by simp [Value.ownBlock] at e; omega)
  have oa := HO1.out.kept hg2 (own_own HO1.out HMP.out (by decide))
  obtain ⟨X2, hX2⟩ : ∃ X, w2.setCell ⟨w.heap.size, 1, none⟩ (.slice (some ⟨g2, 0, none⟩) p.length cap2) = X := ⟨_, rfl⟩
  have gX2 := grownBy_setCell w2 ⟨w.heap.size, 1, none⟩ (.slice (some ⟨g2, 0, none⟩) p.length cap2)
  rw [hX2] at gX2
  have sX2 : X2.heap.size = w2.heap.size := by rw [← hX2]; simp
  have oa2 := oa.kept gX2 (own_ne oa k1 (by decide))
  have op2 := hown2.kept gX2 (own_ne hown2 k1 (by decide))
  have j1 : X2.heap[w.heap.size]? = some (.cells #[.slice (some ⟨g, 0, none⟩) t.length cap, .slice (some ⟨g2, 0, none⟩) p.length cap2] 27 (0, 0)) := by rw [← hX2, heap_setCell_same w2 w.heap.size 1 _ _ _ k1]; rfl
  have j2 := (gX2.block (w.heap.size + 1) (by omega) (by simp <;> omega)).trans k2
  have j3 := (gX2.block (w.heap.size + 1 + 1) (by omega) (by simp <;> omega)).trans k3
  have bX2 : Below w.heap.size w X2 := hb2.grown gX2 hb2.size (fun r e => by cases e; exact Nat.le_refl _)
  have c1 := cell_of k1 (j := 1) rfl
  have f1 := free_of k1 (j := 1)
  have d0 := cell_of j1 (j := 0) rfl
  have d1 := cell_of j1 (j := 1) rfl
  have r0 := cell_of j2 (j := 0) rfl
  have r1 := cell_of j2 (j := 1) rfl
  have r2 := cell_of j2 (j := 2) rfl
  have r3 := cell_of j2 (j := 3) rfl
  obtain ⟨i, hi, hi2⟩ := rest_of at_ t.length h0
  obtain ⟨q, hq, hq2⟩ := rest_of nn p.length h00
  obtain ⟨h, hh, hh2⟩ := rest_of how 14 (by omega)
  have HI2 := Lib.hid hi2
  have HQ2 := Lib.hid hq2
  have HH2 := Lib.hid hh2
  have HOA := Lib.hid oa2
  have HOP := Lib.hid op2
  have HJ1' := Lib.hid j1
  have HJ2' := Lib.hid j2
  have HJ3' := Lib.hid j3
  have HBX2 := Lib.hid bX2
  have HSX2 := Lib.hid sX2
  have HS2 := Lib.hid hs2
  have ii : (i : Int) < t.length := by omega
  have hrow := (rangeOf oa2 (i * 12) 12 _ (flat_take atomL 12 t (fun _ _ => rfl) i hi))
  have hfr := HRF.out (t[i], T i) (by
    simp only [rowsOf, List.mem_map, List.mem_range]
    exact ⟨i, hi, by rw [List.getElem?_eq_getElem hi]; rfl⟩)
  obtain ⟨⟨x0, x1, x2, x3, x4, xm, xt, xb, xn, xd, xe, xa, xl, xc⟩, hx⟩ : ∃ x, t[i] = x := ⟨_, rfl⟩
  obtain ⟨ts, hts⟩ : ∃ ts, T i = ts := ⟨_, rfl⟩
  rw [hx, hts] at hfr
  rw [hx] at hrow
  obtain ⟨fr1, fr2, fr3⟩ := hfr
  simp only at fr1 fr2
  subst fr1
  have HROW : Hid (X2.rangeAt g (i * 12) [.string x0, .string x1, .string x2, .string x3, .string x4, .bool xm, .int .i64 xt, .int .i64 xb, .int .i64 xn, .int .i64 xd, .int .i64 xe, .slice xa ts.length xc]) := hrow
  have HFR2 := Lib.hid fr2
  have HFR3 := Lib.hid fr3
  have HX := Lib.hid hx
  have HTS := Lib.hid hts
  have htl : ts.length ≤ k := fr3.2.2.2
  have bR := (Below.refl X2.heap.size X2).alloc (Nat.le_refl _) (.cells #[.string x0, .string x1, .string x2, .string x3, .string x4, .bool xm, .int .i64 xt, .int .i64 xb, .int .i64 xn, .int .i64 xd, .int .i64 xe, .slice xa ts.length xc] 33)
  have bT := bR.alloc (by simp) (.cells #[] 37)
  have HST := Lib.hid (src_terms (terms_below fr2 (bX2.trans (bT.mono bX2.size))))
  have HMT : Hid (((X2.alloc (.cells #[.string x0, .string x1, .string x2, .string x3, .string x4, .bool xm, .int .i64 xt, .int .i64 xb, .int .i64 xn, .int .i64 xd, .int .i64 xe, .slice xa ts.length xc] 33)).alloc (.cells #[] 37)).ownsRow w.heap.size 37 2 (.slice (some ⟨X2.heap.size + 1, 0, none⟩) 0 0) 0 []) := by
    show World.ownsRow _ _ _ _ _ _ _
    have := made_own (X2.alloc (.cells #[.string x0, .string x1, .string x2, .string x3, .string x4, .bool xm, .int .i64 xt, .int .i64 xb, .int .i64 xn, .int .i64 xd, .int .i64 xe, .slice xa ts.length xc] 33)) w.heap.size 37 2 (by simp; omega)
    simpa using this
  have HBT := Lib.hid bT
  clear nb nb' k2 k3 hown2 hg2 hne2 hor2 hb2 oa gX2 sX2 oa2 op2 j1 j2 j3 bX2 hs2 hi2 hq2 hh2 hrow hx hts fr2 fr3 bR bT zx z1 HJ1 HJ2 HJ3 HO1 HBX1 HSP HMP HSA HMA c0 f0 hX1
  go_wp2_with fail
  refine (rest_nat at_ _ i t.length (by omega) HI2.out (by omega)).mono ?_
  rintro e wx ⟨rfl, rfl⟩
  go_wp2_with fail
  refine (rest_nat nn _ q p.length (by omega) HQ2.out (by omega)).mono ?_
  rintro e wx ⟨rfl, rfl⟩
  go_wp2_with (first | (refine wpList_load_mid rfl 33 (.tmp 45) (by rfl) g (i * 12) (by rfl) [.string x0, .string x1, .string x2, .string x3, .string x4, .bool xm, .int .i64 xt, .int .i64 xb, .int .i64 xn, .int .i64 xd, .int .i64 xe, .slice xa ts.length xc] _ (by exact HROW.out) Tryd.underlying33 rfl size_Atom ?_) | (at_builtin; refine list_appG rfl _ _ 31 rfl w.heap.size 37 iT _ 2 16 Tryd.underlying31 HIT.out zT0 zT1 zT2 rfl (by decide) (.slice (some ⟨X2.heap.size + 1, 0, none⟩) 0 0) 0 [] rfl HMT.out (by simp) xa ts.length xc (termsV ts) rfl HST.out (termsV_one ts) ?_ ?_ ?_ ?_))
  · unfold maxLen; omega
  · omega
  · simp; have := HBX2.out.size; omega
  intro v3 w3 hown3 hg3 hne3 hor3
  have hs3 : X2.heap.size + 2 ≤ w3.heap.size := by have := hg3.size; simp at this; omega
  obtain ⟨xa', xc', e3⟩ := slice_of hown3
  subst e3
  try simp only [Nat.zero_add, List.nil_append] at hown3
  have zb := HBX2.out.size
  have z2 := HSX2.out
  have z3 := HSX1.out
  have z4 := HS1.out
  have z5 := HS2.out
  have nb : ∀ b, b < X2.heap.size + 1 → some b ≠ (Value.slice (some ⟨X2.heap.size + 1, 0, none⟩) 0 0).ownBlock := fun b hb e => by simp [Value.ownBlock] at e; omega
  have nb' : ∀ b, b < X2.heap.size + 1 → (Value.slice (some ⟨X2.heap.size + 1, 0, none⟩) 0 0).ownBlock ≠ some b := fun b hb e => nb b hb e.symm
  have kk : ∀ b, b < X2.heap.size → w3.heap[b]? = X2.heap[b]? := fun b hb => (hg3.block b (by simp; omega) (by first | exact nb _ (by omega) | exact nb' _ (by omega))).trans (HBT.out.block b hb)
  have kb : w3.heap[X2.heap.size]? = some (.cells #[.string x0, .string x1, .string x2, .string x3, .string x4, .bool xm, .int .i64 xt, .int .i64 xb, .int .i64 xn, .int .i64 xd, .int .i64 xe, .slice xa ts.length xc] 33) := (hg3.block X2.heap.size (by simp; omega) (by first | exact nb _ (by omega) | exact nb' _ (by omega))).trans ((heap_alloc_old _ _ (by simp)).trans (heap_alloc_new X2 _))
  have b3 : Below w.heap.size w w3 := (HBX2.out.trans (HBT.out.mono HBX2.out.size)).grown hg3 (by simp; omega) (fun r e => by simp [Value.ownBlock] at e; omega)
  have oA := (ownBelow HOA.out HBT.out).kept hg3 (own_own (ownBelow HOA.out HBT.out) HMT.out (by decide))
  have oP := (ownBelow HOP.out HBT.out).kept hg3 (own_own (ownBelow HOP.out HBT.out) HMT.out (by decide))
  have hsd0 : StD w w3 w.heap.size (w.heap.size + 1 + 1) X2.heap.size (.slice (some ⟨g, 0, none⟩) t.length cap) (.slice (some ⟨g2, 0, none⟩) p.length cap2) (rowsOf t T) p k ⟨x0, x1, x2, x3, x4, xm, xt, xb, xn, xd, xe, xa, ts.length, xc⟩ ts :=
    ⟨sp_mk oA oP HRF.out HPF.out b3, (kk _ (by omega)).trans HJ1'.out, (kk _ (by omega)).trans HJ3'.out, kb, (by have := (HOA.out.lt g rfl).2; simp [Value.ownBlock]; omega), ⟨rfl, .inl HFR2.out⟩, HFR3.out, ⟨Nat.le_refl _, by omega, zb, by omega⟩⟩
  obtain ⟨X3, hX3⟩ : ∃ X, w3.setCell ⟨X2.heap.size, 11, none⟩ (.slice xa' ts.length xc') = X := ⟨_, rfl⟩
  have gX3 := grownBy_setCell w3 ⟨X2.heap.size, 11, none⟩ (.slice xa' ts.length xc')
  rw [hX3] at gX3
  have own3 := hown3.kept gX3 (own_ne hown3 kb (by decide))
  have hsd := hsd0.box (y := ⟨x0, x1, x2, x3, x4, xm, xt, xb, xn, xd, xe, xa', ts.length, xc'⟩) 11 (.slice xa' ts.length xc') rfl ⟨rfl, .inr hown3⟩ HFR3.out
  rw [hX3] at hsd
  have cb := cell_of kb (j := 11) rfl
  have fb := free_of kb (j := 11)
  have j2 := (gX3.block (w.heap.size + 1) (by omega) (by simp <;> omega)).trans ((kk _ (by omega)).trans HJ2'.out)
  have r0' := cell_of j2 (j := 0) rfl
  have r1' := cell_of j2 (j := 1) rfl
  have r2' := cell_of j2 (j := 2) rfl
  have r3' := cell_of j2 (j := 3) rfl
  have HSD := Lib.hid hsd
  have HJQ := Lib.hid j2
  have HNE : Hid (Value.slice xa' ts.length xc' ≠ .slice none 0 0) := by
    show _ ≠ _
    simpa using hne3
  have HOWN := Lib.hid own3
  have HSX3 := Lib.hid gX3.size
  have HS3 := Lib.hid hs3
  clear nb nb' kk kb b3 oA oP hsd0 hsd gX3 own3 j2 hown3 hg3 hne3 hor3 hs3 zb z2 z3 z4 z5 c1 d0 d1 r0 r1 r2 r3 hX2 f1
  go_wp2_with fail
  refine (rest_nat how _ h 14 (by omega) HH2.out (by omega)).mono ?_
  rintro e wx ⟨rfl, rfl⟩
  go_upto_block 0 with (fail)
  go_cut [] (fun wx => MidA w w.heap.size (w.heap.size + 1 + 1) X2.heap.size i (n + 120) p.length (k + 1) wx)
  case first =>
    have h14 : h = 0 ∨ h = 1 ∨ h = 2 ∨ h = 3 ∨ h = 4 ∨ h = 5 ∨ h = 6 ∨ h = 7 ∨ h = 8 ∨ h = 9 ∨ h = 10 ∨ h = 11 ∨ h = 12 ∨ h = 13 := by omega
    have hrl := rowsOf_length t T
    have nq : X2.heap.size ≠ w.heap.size + 1 := by have := HBX2.out.size; have := HSX2.out; have := HSX1.out; have := HS1.out; have := HS2.out; omega
    have nt : X2.heap.size ≠ w.heap.size := by have := HBX2.out.size; have := HSX2.out; have := HSX1.out; have := HS1.out; have := HS2.out; omega
    rcases h14 with rfl | rfl | rfl | rfl | rfl | rfl | rfl | rfl | rfl | rfl | rfl | rfl | rfl | rfl
    · obtain ⟨c5, hc5, hc52⟩ := rest_of nn 5 (by omega)
      have HC5 := Lib.hid hc52
      obtain ⟨u0, cj⟩ : ∃ u, X3.cell? ⟨X2.heap.size, c5, none⟩ = some u := box_cell HSD.out.xb (by omega)
      have fj := free_of HSD.out.xb (j := c5)
      have c5i : (c5 : Int) < 5 := by omega
      clear hc52
      go_wp2_with fail
      go_region_held3 (fun w' => w'.cell? ⟨w.heap.size + 1, 2, none⟩ = some (.int .i64 nn) ∧ w'.cell? ⟨w.heap.size + 1, 3, none⟩ = some (.string text))
        (first | go_keep | ((repeat' apply And.intro) <;> (rw [World.cell?_drew]; exact (World.cell?_setCell_far _ _ _ _ nq).trans (by assumption))))
        ((go_at_call 9; refine (rest_nat nn _ c5 5 (by omega) HC5.out (by omega)).mono ?_; rintro e wx ⟨rfl, rfl⟩))
      all_goals
        go_wp2_with fail
        go_meet
        exact mid_of (((HSD.out.mono (Nat.le_succ k)).box (y := setCode ⟨x0, x1, x2, x3, x4, xm, xt, xb, xn, xd, xe, xa', ts.length, xc'⟩ c5 text) c5 (.string text) (setCode_L _ c5 hc5 text) (setCode_row c5 text HSD.out.row) (setCode_fine c5 HTX.out (HSD.out.fine.mono (Nat.le_succ k)))).under (Below.refl _ _).drew) hrl.symm rfl (by omega) (by omega) rfl
    · obtain ⟨c5, hc5, hc52⟩ := rest_of nn 5 (by omega)
      obtain ⟨j, hj, hj2⟩ := rest_of nn t.length h0
      have HC5 := Lib.hid hc52
      have HJ5 := Lib.hid hj2
      obtain ⟨u0, cj⟩ : ∃ u, X3.cell? ⟨X2.heap.size, c5, none⟩ = some u := box_cell HSD.out.xb (by omega)
      have fj := free_of HSD.out.xb (j := c5)
      have hat := HSD.out.sp.atoms
      rw [rowsOf_length, rowsOf_D] at hat
      have hng : X2.heap.size ≠ g := by have := HSD.out.ne; simpa [Value.ownBlock, eq_comm] using this
      obtain ⟨s5, hs5, hz5⟩ : ∃ s : ByteArray, X3.cell? ⟨g, j * 12 + c5, none⟩ = some (.string s) ∧ s.size ≤ maxLen := by
        have hr := rangeOf hat (j * 12) 12 _ (flat_take atomL 12 t (fun _ _ => rfl) j hj)
        have hf := (HRF.out (t[j], T j) (by simp only [rowsOf, List.mem_map, List.mem_range]; exact ⟨j, hj, by rw [List.getElem?_eq_getElem hj]; rfl⟩)).2.2.2.2.1 c5
        refine ⟨codesA t[j] c5, hr c5 _ ?_, hf⟩
        rcases c5 with _ | _ | _ | _ | _ | c5 <;> first | rfl | omega
      have T0 := cell_of HSD.out.tb (j := 0) rfl
      have c5i : (c5 : Int) < 5 := by omega
      have ji : (j : Int) < t.length := by omega
      have HZ5 := Lib.hid hz5
      clear hc52 hj2 hat hz5
      go_wp2_with fail
      go_still_tail 20, (by kernel_rfl)
      still_call ((rest_nat nn _ c5 5 (by omega) HC5.out (by omega)).mono fun e w' h => ⟨h.1, h.2.symm⟩)
      repeat still_step
      still_call ((rest_nat nn _ j t.length (by omega) HJ5.out (by omega)).mono fun e w' h => ⟨h.1, h.2.symm⟩)
      repeat still_step
      still_call ((rest_nat nn _ c5 5 (by omega) HC5.out (by omega)).mono fun e w' h => ⟨h.1, h.2.symm⟩)
      repeat still_step
      refine wpStill_nil ?_
      all_goals
        go_wp2_with fail
        go_meet
        exact mid_of (((HSD.out.mono (Nat.le_succ k)).box (y := setCode ⟨x0, x1, x2, x3, x4, xm, xt, xb, xn, xd, xe, xa', ts.length, xc'⟩ c5 s5) c5 (.string s5) (setCode_L _ c5 hc5 s5) (setCode_row c5 s5 HSD.out.row) (setCode_fine c5 HZ5.out (HSD.out.fine.mono (Nat.le_succ k)))).under (Below.refl _ _).drew) hrl.symm rfl (by omega) (by omega) rfl
    · have cj := cell_of HSD.out.xb (j := 6) rfl
      have fj := free_of HSD.out.xb (j := 6)
      go_wp2_with fail
      go_meet
      exact mid_of ((HSD.out.mono (Nat.le_succ k)).box (y := ⟨x0, x1, x2, x3, x4, xm, nn, xb, xn, xd, xe, xa', ts.length, xc'⟩) 6 (.int .i64 nn) rfl HSD.out.row (HSD.out.fine.mono (Nat.le_succ k))) hrl.symm rfl (by omega) (by omega) rfl
    · have cj := cell_of HSD.out.xb (j := 7) rfl
      have fj := free_of HSD.out.xb (j := 7)
      go_wp2_with fail
      go_meet
      exact mid_of ((HSD.out.mono (Nat.le_succ k)).box (y := ⟨x0, x1, x2, x3, x4, xm, xt, nn, xn, xd, xe, xa', ts.length, xc'⟩) 7 (.int .i64 nn) rfl HSD.out.row (HSD.out.fine.mono (Nat.le_succ k))) hrl.symm rfl (by omega) (by omega) rfl
    · have cj := cell_of HSD.out.xb (j := 8) rfl
      have fj := free_of HSD.out.xb (j := 8)
      go_wp2_with fail
      go_meet
      exact mid_of ((HSD.out.mono (Nat.le_succ k)).box (y := ⟨x0, x1, x2, x3, x4, xm, xt, xb, nn, xd, xe, xa', ts.length, xc'⟩) 8 (.int .i64 nn) rfl HSD.out.row ⟨hnn.2, HSD.out.fine.2.1, HSD.out.fine.2.2.1, Nat.le_succ_of_le HSD.out.fine.2.2.2⟩) hrl.symm rfl (by omega) (by omega) rfl
    · have cj := cell_of HSD.out.xb (j := 9) rfl
      have fj := free_of HSD.out.xb (j := 9)
      go_wp2_with fail
      go_meet
      exact mid_of ((HSD.out.mono (Nat.le_succ k)).box (y := ⟨x0, x1, x2, x3, x4, xm, xt, xb, xn, nn, xe, xa', ts.length, xc'⟩) 9 (.int .i64 nn) rfl HSD.out.row ⟨HSD.out.fine.1, hnn.2, HSD.out.fine.2.2.1, Nat.le_succ_of_le HSD.out.fine.2.2.2⟩) hrl.symm rfl (by omega) (by omega) rfl
    · have cj := cell_of HSD.out.xb (j := 10) rfl
      have fj := free_of HSD.out.xb (j := 10)
      go_wp2_with fail
      go_meet
      exact mid_of ((HSD.out.mono (Nat.le_succ k)).box (y := ⟨x0, x1, x2, x3, x4, xm, xt, xb, xn, xd, nn, xa', ts.length, xc'⟩) 10 (.int .i64 nn) rfl HSD.out.row (HSD.out.fine.mono (Nat.le_succ k))) hrl.symm rfl (by omega) (by omega) rfl
    · have cj := cell_of HSD.out.xb (j := 11) rfl
      have hal : Below X3.heap.size X3 (X3.alloc (.cells #[.int .i64 nn, .int .i64 1] 37)) := (Below.refl _ _).alloc (Nat.le_refl _) _
      have HSR : Hid (SrcAt (X3.alloc (.cells #[.int .i64 nn, .int .i64 1] 37)) (some ⟨X3.heap.size, 0, none⟩) 1 2 (termsV [(nn, 1)])) := ⟨rfl, .inr ⟨_, rfl, fun j u hu => by
        rw [addPlain]
        exact cellNew X3 _ _ j u (by simpa [termsV, termV, intV] using hu)⟩⟩
      have HSD2 := Lib.hid ((HSD.out.mono (Nat.le_succ k)).under hal)
      have HOW2 := Lib.hid (ownBelow HOWN.out hal)
      have hxb := HSD2.out.xb
      have hsz := HBX2.out.size
      clear hal
      go_wp2_with (at_builtin; refine list_appG rfl _ _ 31 rfl w.heap.size 37 iT _ 2 16 Tryd.underlying31 HIT.out zT0 zT1 zT2 rfl (by decide) (.slice xa' ts.length xc') ts.length (termsV ts) rfl HOW2.out HNE.out (some ⟨X3.heap.size, 0, none⟩) 1 1 (termsV [(nn, 1)]) rfl HSR.out (termsV_one _) ?_ ?_ ?_ ?_)
      · unfold maxLen; omega
      · omega
      · simp; have := HSX3.out; have := HS3.out; have := HSX2.out; omega
      intro v4 w4 hown4 hg4 hne4 hor4
      obtain ⟨a4, c4, e4⟩ := slice_of hown4
      subst e4
      have hb4 : w4.heap[X2.heap.size]? = some (.cells (atomL ⟨x0, x1, x2, x3, x4, xm, xt, xb, xn, xd, xe, xa', ts.length, xc'⟩).toArray 33 (0, 0)) := (hg4.block X2.heap.size (Array.getElem?_eq_some_iff.1 hxb).1 (by
        rcases own_ne HOW2.out hxb (by decide) with e | e
        · rw [e]; simp
        · first | exact e | exact fun e2 => e e2.symm)).trans hxb
      have p0 := cell_of hb4 (j := 11) rfl
      have p1 := free_of hb4 (j := 11)
      have ho4 : w4.ownsRow w.heap.size 37 2 (.slice a4 (ts.length + 1) c4) (ts ++ [(nn, 1)]).length (termsV (ts ++ [(nn, 1)])) := by
        rw [List.length_append, show termsV (ts ++ [(nn, 1)]) = termsV ts ++ termsV [(nn, 1)] by simp [termsV]]
        exact hown4
      have HFIN := Lib.hid (HSD2.out.terms (fun y hy => (HRF.out y hy).2.1) HOW2.out hg4 a4 (ts.length + 1) c4 ho4 (k' := k + 1) (by rw [List.length_append]; simp; omega) (Nat.le_refl _))
      clear hown4 hg4 hne4 hor4 hb4 ho4 hxb
      go_wp2_with fail
      go_meet
      exact mid_of HFIN.out hrl.symm rfl (by omega) (by omega) rfl
    · have cj := cell_of HSD.out.xb (j := 11) rfl
      have hal : Below X3.heap.size X3 (X3.alloc (.cells #[.int .i64 ((i : Int) - 1), .int .i64 nn] 37)) := (Below.refl _ _).alloc (Nat.le_refl _) _
      have HSR : Hid (SrcAt (X3.alloc (.cells #[.int .i64 ((i : Int) - 1), .int .i64 nn] 37)) (some ⟨X3.heap.size, 0, none⟩) 1 2 (termsV [((i : Int) - 1, nn)])) := ⟨rfl, .inr ⟨_, rfl, fun j u hu => by
        rw [addPlain]
        exact cellNew X3 _ _ j u (by simpa [termsV, termV, intV] using hu)⟩⟩
      have HSD2 := Lib.hid ((HSD.out.mono (Nat.le_succ k)).under hal)
      have HOW2 := Lib.hid (ownBelow HOWN.out hal)
      have hxb := HSD2.out.xb
      have hsz := HBX2.out.size
      clear hal
      go_wp2_with (at_builtin; refine list_appG rfl _ _ 31 rfl w.heap.size 37 iT _ 2 16 Tryd.underlying31 HIT.out zT0 zT1 zT2 rfl (by decide) (.slice xa' ts.length xc') ts.length (termsV ts) rfl HOW2.out HNE.out (some ⟨X3.heap.size, 0, none⟩) 1 1 (termsV [((i : Int) - 1, nn)]) rfl HSR.out (termsV_one _) ?_ ?_ ?_ ?_)
      · unfold maxLen; omega
      · omega
      · simp; have := HSX3.out; have := HS3.out; have := HSX2.out; omega
      intro v4 w4 hown4 hg4 hne4 hor4
      obtain ⟨a4, c4, e4⟩ := slice_of hown4
      subst e4
      have hb4 : w4.heap[X2.heap.size]? = some (.cells (atomL ⟨x0, x1, x2, x3, x4, xm, xt, xb, xn, xd, xe, xa', ts.length, xc'⟩).toArray 33 (0, 0)) := (hg4.block X2.heap.size (Array.getElem?_eq_some_iff.1 hxb).1 (by
        rcases own_ne HOW2.out hxb (by decide) with e | e
        · rw [e]; simp
        · first | exact e | exact fun e2 => e e2.symm)).trans hxb
      have p0 := cell_of hb4 (j := 11) rfl
      have p1 := free_of hb4 (j := 11)
      have ho4 : w4.ownsRow w.heap.size 37 2 (.slice a4 (ts.length + 1) c4) (ts ++ [((i : Int) - 1, nn)]).length (termsV (ts ++ [((i : Int) - 1, nn)])) := by
        rw [List.length_append, show termsV (ts ++ [((i : Int) - 1, nn)]) = termsV ts ++ termsV [((i : Int) - 1, nn)] by simp [termsV]]
        exact hown4
      have HFIN := Lib.hid (HSD2.out.terms (fun y hy => (HRF.out y hy).2.1) HOW2.out hg4 a4 (ts.length + 1) c4 ho4 (k' := k + 1) (by rw [List.length_append]; simp; omega) (Nat.le_refl _))
      clear hown4 hg4 hne4 hor4 hb4 ho4 hxb
      go_wp2_with fail
      go_meet
      exact mid_of HFIN.out hrl.symm rfl (by omega) (by omega) rfl
    · have T0 := cell_of HSD.out.tb (j := 0) rfl
      have v0 : X3.cell? ⟨X2.heap.size, 0, none⟩ = some (.string x0) := cell_of HSD.out.xb rfl
      have v1 : X3.cell? ⟨X2.heap.size, 1, none⟩ = some (.string x1) := cell_of HSD.out.xb rfl
      have v2 : X3.cell? ⟨X2.heap.size, 2, none⟩ = some (.string x2) := cell_of HSD.out.xb rfl
      have v3 : X3.cell? ⟨X2.heap.size, 3, none⟩ = some (.string x3) := cell_of HSD.out.xb rfl
      have v4 : X3.cell? ⟨X2.heap.size, 4, none⟩ = some (.string x4) := cell_of HSD.out.xb rfl
      have v5 : X3.cell? ⟨X2.heap.size, 5, none⟩ = some (.bool xm) := cell_of HSD.out.xb rfl
      have v6 : X3.cell? ⟨X2.heap.size, 6, none⟩ = some (.int .i64 xt) := cell_of HSD.out.xb rfl
      have v7 : X3.cell? ⟨X2.heap.size, 7, none⟩ = some (.int .i64 xb) := cell_of HSD.out.xb rfl
      have v8 : X3.cell? ⟨X2.heap.size, 8, none⟩ = some (.int .i64 xn) := cell_of HSD.out.xb rfl
      have v9 : X3.cell? ⟨X2.heap.size, 9, none⟩ = some (.int .i64 xd) := cell_of HSD.out.xb rfl
      have v10 : X3.cell? ⟨X2.heap.size, 10, none⟩ = some (.int .i64 xe) := cell_of HSD.out.xb rfl
      have v11 : X3.cell? ⟨X2.heap.size, 11, none⟩ = some (.slice xa' ts.length xc') := cell_of HSD.out.xb rfl
      have hal : Below X3.heap.size X3 (X3.alloc (.cells #[.string x0, .string x1, .string x2, .string x3, .string x4, .bool xm, .int .i64 xt, .int .i64 xb, .int .i64 xn, .int .i64 xd, .int .i64 xe, .slice xa' ts.length xc'] 33)) := (Below.refl _ _).alloc (Nat.le_refl _) _
      have HSR : Hid (SrcAt (X3.alloc (.cells #[.string x0, .string x1, .string x2, .string x3, .string x4, .bool xm, .int .i64 xt, .int .i64 xb, .int .i64 xn, .int .i64 xd, .int .i64 xe, .slice xa' ts.length xc'] 33)) (some ⟨X3.heap.size, 0, none⟩) 1 12 (atomsL [⟨x0, x1, x2, x3, x4, xm, xt, xb, xn, xd, xe, xa', ts.length, xc'⟩])) := ⟨rfl, .inr ⟨_, rfl, fun j u hu => by
        rw [addPlain]
        exact cellNew X3 _ _ j u (by simpa [atomsL, atomL] using hu)⟩⟩
      have HSD2 := Lib.hid ((HSD.out.mono (Nat.le_succ k)).under hal)
      have hat := HSD2.out.sp.atoms
      rw [rowsOf_length, rowsOf_D] at hat
      have HAT := Lib.hid hat
      have htb := HSD2.out.tb
      clear hal hat
      go_wp2_with (at_builtin; refine list_appG rfl _ _ 24 rfl w.heap.size 33 iA _ 12 152 Tryd.underlying24 HIA.out zA0 zA1 zA2 rfl (by decide) (.slice (some ⟨g, 0, none⟩) t.length cap) t.length (atomsL t) rfl HAT.out (by simp) (some ⟨X3.heap.size, 0, none⟩) 1 1 (atomsL [⟨x0, x1, x2, x3, x4, xm, xt, xb, xn, xd, xe, xa', ts.length, xc'⟩]) rfl HSR.out (atomsL_one _) ?_ ?_ ?_ ?_)
      · unfold maxLen; omega
      · omega
      · simp; have := HSX3.out; have := HS3.out; have := HSX2.out; have := HBX2.out.size; omega
      intro v4 w4 hown4 hg4 hne4 hor4
      obtain ⟨g4, c4, e4⟩ := form_of hown4 (by omega)
      subst e4
      have hb4 : w4.heap[w.heap.size]? = some (.cells #[.slice (some ⟨g, 0, none⟩) t.length cap, .slice (some ⟨g2, 0, none⟩) p.length cap2] 27 (0, 0)) := (hg4.block w.heap.size (Array.getElem?_eq_some_iff.1 htb).1 (by
        rcases own_ne HAT.out htb (by decide) with e | e
        · rw [e]; simp
        · first | exact e | exact fun e2 => e e2.symm)).trans htb
      have p0 := cell_of hb4 (j := 0) rfl
      have p1 := free_of hb4 (j := 0)
      have ho4 : w4.ownsRow w.heap.size 33 12 (.slice (some ⟨g4, 0, none⟩) (t.length + 1) c4) (rowsOf t T ++ [((⟨x0, x1, x2, x3, x4, xm, xt, xb, xn, xd, xe, xa', ts.length, xc'⟩ : AtomD), ts)]).length (atomsL (rowsD (rowsOf t T ++ [((⟨x0, x1, x2, x3, x4, xm, xt, xb, xn, xd, xe, xa', ts.length, xc'⟩ : AtomD), ts)]))) := by
        rw [List.length_append, rowsOf_length, show rowsD (rowsOf t T ++ [((⟨x0, x1, x2, x3, x4, xm, xt, xb, xn, xd, xe, xa', ts.length, xc'⟩ : AtomD), ts)]) = rowsD (rowsOf t T) ++ [(⟨x0, x1, x2, x3, x4, xm, xt, xb, xn, xd, xe, xa', ts.length, xc'⟩ : AtomD)] by simp [rowsD], rowsOf_D, show atomsL (t ++ [(⟨x0, x1, x2, x3, x4, xm, xt, xb, xn, xd, xe, xa', ts.length, xc'⟩ : AtomD)]) = atomsL t ++ atomsL [⟨x0, x1, x2, x3, x4, xm, xt, xb, xn, xd, xe, xa', ts.length, xc'⟩] by simp [atomsL]]
        exact hown4
      have HFIN := Lib.hid (HSD2.out.atoms (k' := k + 1) hg4 (by simpa using hor4) ho4 (fun y hy => by
        rcases List.mem_append.1 hy with hy | hy
        · exact HSD2.out.sp.rows y hy
        · obtain rfl := List.mem_singleton.1 hy
          exact ⟨HSD2.out.row, HSD2.out.fine⟩) (Nat.le_refl _))
      clear hown4 hg4 hne4 hor4 hb4 ho4 htb v0 v1 v2 v3 v4 v5 v6 v7 v8 v9 v10 v11
      go_wp2_with fail
      go_meet
      exact mid_of HFIN.out (by rw [List.length_append, rowsOf_length]; rfl) rfl (by rw [List.length_append, rowsOf_length]; omega) (by rw [List.length_append, rowsOf_length]; simp; omega) rfl
    · have hat := HSD.out.sp.atoms
      rw [rowsOf_length, rowsOf_D] at hat
      have T0 := cell_of HSD.out.tb (j := 0) rfl
      have q3 := own_cap hat
      have q1 : i ≤ cap := by omega
      have q2 : ((i : Int) + 1).toNat = i + 1 := by omega
      have q4 : (i : Int) ≤ cap := by omega
      have q5 : (i : Int) + 1 ≤ t.length := by omega
      have q7 : 0 ≤ (i : Int) + 1 := by omega
      have q11 : IntKind.i64.wrap ((i : Int) + 1) = (i : Int) + 1 := IntWalk.i64_in _ (by omega)
      have HPD := Lib.hid (own_partA hat (Nat.le_of_lt hi))
      have HZW := Lib.hid HSD.out.sp.below.size
      have HSD3 : Hid (StD w X3 w.heap.size (w.heap.size + 1 + 1) X2.heap.size (.slice (some ⟨g, 0, none⟩) (rowsOf t T).length cap) (.slice (some ⟨g2, 0, none⟩) p.length cap2) (rowsOf t T) p k ⟨x0, x1, x2, x3, x4, xm, xt, xb, xn, xd, xe, xa', ts.length, xc'⟩ ts) := by
        show StD _ _ _ _ _ _ _ _ _ _ _ _
        rw [hrl]
        exact HSD.out
      by_cases q8 : cap = i + 1
      · have HCD : Hid (∀ j u, (atomsL (t.drop (i + 1)))[j]? = some u → X3.drew.cell? ((⟨g, 0, none⟩ : Addr).add j) = some u) := fun j u hu => by
          rw [List.drop_eq_nil_of_le (by omega)] at hu
          cases hu
        subst q8
        have q10 : (i : Int) ≤ (i : Int) + 1 := by omega
        clear hat
        go_wp2_with fail
        go_region_law ((refine step_ownA (by simp [Region.wanted]) _ _ 24 rfl w.heap.size 33 iA _ 12 152 Tryd.underlying24 HIA.out zA0 zA1 zA2 (by rfl) (by decide) _ i ((atomsL t).take (i * 12)) (by simp [Act.eval, Act.put]) HPD.out ⟨g, 0, none⟩ (t.length - (i + 1)) (0) (atomsL (t.drop (i + 1))) (by simp [Act.eval, Act.put] <;> omega) (by rw [atomsL_length, List.length_drop]) HCD.out (atomsL_one _) (by unfold maxLen; omega) (by omega) (by simpa using HZW.out) ?_; intro v4 w4 hown4 hg4 hn4; have hcut := HSD3.out.cut (i := i) (m := t.length - (i + 1)) (by rw [rowsOf_length]; exact hi) (by rw [rowsOf_length]) hg4 (by rw [rowsOf_D]; exact hown4); obtain ⟨LL, hLL⟩ : ∃ L, i + (t.length - (i + 1)) = L := ⟨_, rfl⟩; rw [hLL] at hown4; have HLL := Lib.hid hLL; clear hLL; obtain ⟨a4, c4, e4⟩ := slice_of hown4; subst e4; have p0 := cell_of hcut.2.1 (j := 0) rfl; have p1 := free_of hcut.2.1 (j := 0); have HCUT := Lib.hid hcut; clear hown4 hg4 hn4 hcut))
        all_goals
          obtain ⟨hsp, tb4, rb4⟩ := HCUT.out
          have HSPC := Lib.hid hsp
          have HTB4 := Lib.hid tb4
          have HRB4 := Lib.hid rb4
          have p2 := cell_of tb4 (j := 1) rfl
          have r4 := cell_of rb4 (j := 0) rfl
          have r5 := cell_of rb4 (j := 1) rfl
          have r6 := free_of rb4 (j := 0)
          have r7 := free_of rb4 (j := 1)
          have nbt : w.heap.size + 1 + 1 ≠ w.heap.size := by omega
          have nbt2 : w.heap.size ≠ w.heap.size + 1 + 1 := by omega
          clear hsp tb4 rb4
          go_wp2_with fail
          refine bodyPost_ret (v := .agg #[.slice a4 LL c4, .slice (some ⟨g2, 0, none⟩) p.length cap2]) (results_row Tryd.results13 _ _ (w.heap.size + 1 + 1) [.slice a4 LL c4, .slice (some ⟨g2, 0, none⟩) p.length cap2] _ (by rfl) (by exact two_cells ((World.cell?_setCell_far _ _ _ _ nbt2).trans r4) ((World.cell?_setCell_far _ _ _ _ nbt2).trans r5)) Tryd.underlying27 rfl (by kernel_rfl)) rfl ?_
          have s1 := (HSPC.out.mono (Nat.le_succ k)).box HTB4.out (Nat.le_refl _) 0 (.slice a4 LL c4)
          have rb5 := (Below.heap_setCell w4 ⟨w.heap.size, 0, none⟩ (.slice a4 LL c4) (w.heap.size + 1 + 1) nbt).trans HRB4.out
          have s2 := s1.box rb5 (by omega) 0 (.slice a4 LL c4)
          have s3 := s2.box (heap_setCell_same _ (w.heap.size + 1 + 1) 0 _ _ _ rb5) (by omega) 1 (.slice (some ⟨g2, 0, none⟩) p.length cap2)
          exact sp_final s3 (by rw [← HLL.out, List.length_append, List.length_take, List.length_drop, rowsOf_length, Nat.min_eq_left (by omega)]) rfl (by rw [List.length_append, List.length_take, List.length_drop, rowsOf_length]; omega) (by omega) (by omega)
      · have HCD := Lib.hid (own_tailA hat (i + 1))
        clear hat
        go_wp2_with fail
        go_region_law ((refine step_ownA (by simp [Region.wanted]) _ _ 24 rfl w.heap.size 33 iA _ 12 152 Tryd.underlying24 HIA.out zA0 zA1 zA2 (by rfl) (by decide) _ i ((atomsL t).take (i * 12)) (by simp [Act.eval, Act.put]) HPD.out ⟨g, (i + 1) * 12, none⟩ (t.length - (i + 1)) (cap - (i + 1)) (atomsL (t.drop (i + 1))) (by simp [Act.eval, Act.put] <;> omega) (by rw [atomsL_length, List.length_drop]) HCD.out (atomsL_one _) (by unfold maxLen; omega) (by omega) (by simpa using HZW.out) ?_; intro v4 w4 hown4 hg4 hn4; have hcut := HSD3.out.cut (i := i) (m := t.length - (i + 1)) (by rw [rowsOf_length]; exact hi) (by rw [rowsOf_length]) hg4 (by rw [rowsOf_D]; exact hown4); obtain ⟨LL, hLL⟩ : ∃ L, i + (t.length - (i + 1)) = L := ⟨_, rfl⟩; rw [hLL] at hown4; have HLL := Lib.hid hLL; clear hLL; obtain ⟨a4, c4, e4⟩ := slice_of hown4; subst e4; have p0 := cell_of hcut.2.1 (j := 0) rfl; have p1 := free_of hcut.2.1 (j := 0); have HCUT := Lib.hid hcut; clear hown4 hg4 hn4 hcut))
        all_goals
          obtain ⟨hsp, tb4, rb4⟩ := HCUT.out
          have HSPC := Lib.hid hsp
          have HTB4 := Lib.hid tb4
          have HRB4 := Lib.hid rb4
          have p2 := cell_of tb4 (j := 1) rfl
          have r4 := cell_of rb4 (j := 0) rfl
          have r5 := cell_of rb4 (j := 1) rfl
          have r6 := free_of rb4 (j := 0)
          have r7 := free_of rb4 (j := 1)
          have nbt : w.heap.size + 1 + 1 ≠ w.heap.size := by omega
          have nbt2 : w.heap.size ≠ w.heap.size + 1 + 1 := by omega
          clear hsp tb4 rb4
          go_wp2_with fail
          refine bodyPost_ret (v := .agg #[.slice a4 LL c4, .slice (some ⟨g2, 0, none⟩) p.length cap2]) (results_row Tryd.results13 _ _ (w.heap.size + 1 + 1) [.slice a4 LL c4, .slice (some ⟨g2, 0, none⟩) p.length cap2] _ (by rfl) (by exact two_cells ((World.cell?_setCell_far _ _ _ _ nbt2).trans r4) ((World.cell?_setCell_far _ _ _ _ nbt2).trans r5)) Tryd.underlying27 rfl (by kernel_rfl)) rfl ?_
          have s1 := (HSPC.out.mono (Nat.le_succ k)).box HTB4.out (Nat.le_refl _) 0 (.slice a4 LL c4)
          have rb5 := (Below.heap_setCell w4 ⟨w.heap.size, 0, none⟩ (.slice a4 LL c4) (w.heap.size + 1 + 1) nbt).trans HRB4.out
          have s2 := s1.box rb5 (by omega) 0 (.slice a4 LL c4)
          have s3 := s2.box (heap_setCell_same _ (w.heap.size + 1 + 1) 0 _ _ _ rb5) (by omega) 1 (.slice (some ⟨g2, 0, none⟩) p.length cap2)
          exact sp_final s3 (by rw [← HLL.out, List.length_append, List.length_take, List.length_drop, rowsOf_length, Nat.min_eq_left (by omega)]) rfl (by rw [List.length_append, List.length_take, List.length_drop, rowsOf_length]; omega) (by omega) (by omega)
    · obtain ⟨c5, hc5, hc52⟩ := rest_of at_ 5 (by omega)
      have HC5 := Lib.hid hc52
      have T1 := cell_of HSD.out.tb (j := 1) rfl
      have hqi : (q : Int) < p.length := by omega
      have c5i : (c5 : Int) < 5 := by omega
      have hpr := pref_range (p := p) (o := 0) (rangeOf HSD.out.sp.prefs 0 (p.length * 6) _ (by rw [List.drop_zero, List.take_of_length_le]; rw [prefsL_length]; exact Nat.le_refl _)) q hq
      rw [Nat.zero_add] at hpr
      have hl6 : c5 < (prefL p[q]).length := by simp [prefL]; omega
      obtain ⟨u0, cj⟩ : ∃ u, X3.cell? ⟨g2, q * 6 + c5, none⟩ = some u := ⟨_, hpr c5 _ (List.getElem?_eq_getElem hl6)⟩
      have fj : X3.frozen? ⟨g2, q * 6 + c5, none⟩ = false := HSD.out.sp.prefs.frozenAt _
      clear hc52 hpr hl6
      go_wp2_with fail
      go_still_tail 11, (by kernel_rfl)
      still_call ((rest_nat at_ _ c5 5 (by omega) HC5.out (by omega)).mono fun e w' h => ⟨h.1, h.2.symm⟩)
      repeat still_step
      refine wpStill_nil ?_
      go_wp2_with fail
      go_meet
      exact mid_of (((HSD.out.mono (Nat.le_succ k)).pref hq (j := c5) (by omega) (.string text) (setPre p[q] c5 text) (setPre_L _ c5 hc5 text) (setPre_fine c5 HTX.out (HPF.out _ (List.getElem_mem hq)))).under (Below.refl _ _).drew) hrl.symm rfl (by omega) (by omega) (by rw [List.length_set])
    · have T1 := cell_of HSD.out.tb (j := 1) rfl
      have hqi : (q : Int) < p.length := by omega
      obtain ⟨u0, cj⟩ : ∃ u, X3.cell? ⟨g2, q * 6 + 5, none⟩ = some u := ⟨_, pref_range (p := p) (o := 0) (rangeOf HSD.out.sp.prefs 0 (p.length * 6) _ (by rw [List.drop_zero, List.take_of_length_le]; rw [prefsL_length]; exact Nat.le_refl _)) q hq 5 _ rfl |> fun h => by rw [Nat.zero_add] at h; exact h⟩
      have fj : X3.frozen? ⟨g2, q * 6 + 5, none⟩ = false := HSD.out.sp.prefs.frozenAt _
      go_wp2_with fail
      go_meet
      exact mid_of ((HSD.out.mono (Nat.le_succ k)).pref hq (j := 5) (by omega) (.int .i64 at_) { p[q] with ten := at_ } rfl (fun j => HPF.out p[q] (List.getElem_mem hq) j)) hrl.symm rfl (by omega) (by omega) (by rw [List.length_set])
    · obtain ⟨z, hz, hz2⟩ := rest_of nn 120 (by omega)
      have HZ := Lib.hid hz2
      clear hz2
      rw [show ((13 : Nat) : Int) = 13 from rfl]
      go_wp2_with fail
      go_loopw [8] (fun i8 wr => ∃ r : Nat, r ≤ z ∧ i8 = .int .i64 (r : Int) ∧ LoopA w wr w.heap.size (w.heap.size + 1) (w.heap.size + 1 + 1) X2.heap.size r t.length g2 cap2 (k + 1) p ⟨x0, x1, x2, x3, x4, xm, xt, xb, xn, xd, xe, xa', ts.length, xc'⟩ ts #[.int .i64 how, .int .i64 at_, .int .i64 nn, .string text]) (fun i8 _ => z - (intOf i8).toNat)
      case atStart => exact ⟨0, by omega, rfl, rowsOf t T, g, cap, by rw [hrl]; exact HSD.out.mono (Nat.le_succ k), hrl, HJQ.out⟩
      case round =>
        obtain ⟨r, hr, rfl, l, gl, capl, hst, hll, htu⟩ := hrel
        have T0 := cell_of hst.tb (j := 0) rfl
        have Q2 := cell_of htu (j := 2) rfl
        have HST := Lib.hid hst
        have HTU := Lib.hid htu
        have HLL := Lib.hid hll
        clear hst htu
        by_cases hlt : r < z
        · have hal : Below wr.heap.size wr (wr.alloc (.cells #[.string ⟨#[]⟩, .string ⟨#[]⟩, .string ⟨#[]⟩, .string ⟨#[]⟩, .string ⟨#[]⟩, .bool false, .int .i64 0, .int .i64 (-1), .int .i64 1, .int .i64 1, .int .i64 0, .slice none 0 0] 33)) := (Below.refl _ _).alloc (Nat.le_refl _) _
          have HSR : Hid (SrcAt (wr.alloc (.cells #[.string ⟨#[]⟩, .string ⟨#[]⟩, .string ⟨#[]⟩, .string ⟨#[]⟩, .string ⟨#[]⟩, .bool false, .int .i64 0, .int .i64 (-1), .int .i64 1, .int .i64 1, .int .i64 0, .slice none 0 0] 33)) (some ⟨wr.heap.size, 0, none⟩) 1 12 (atomsL [zeroA])) := ⟨rfl, .inr ⟨_, rfl, fun j u hu => by
            rw [addPlain]
            exact cellNew wr _ _ j u (by simpa [atomsL, atomL, zeroA] using hu)⟩⟩
          have HSD2 := Lib.hid (HST.out.under hal)
          have HAT := Lib.hid HSD2.out.sp.atoms
          have HTU2 := Lib.hid ((hal.block _ (Array.getElem?_eq_some_iff.1 HTU.out).1).trans HTU.out)
          have htb := HSD2.out.tb
          have hlz : l.length ≤ 2000 := by omega
          have hwz := HST.out.sp.below.size
          clear hal hll
          go_wp2_with fail
          refine (rest_nat nn _ z 120 (by omega) HZ.out (by omega)).mono ?_
          rintro e wx ⟨rfl, rfl⟩
          go_wp2_with (at_builtin; refine list_appG rfl _ _ 24 rfl w.heap.size 33 iA _ 12 152 Tryd.underlying24 HIA.out zA0 zA1 zA2 rfl (by decide) (.slice (some ⟨gl, 0, none⟩) l.length capl) l.length (atomsL (rowsD l)) rfl HAT.out (by simp) (some ⟨wr.heap.size, 0, none⟩) 1 1 (atomsL [zeroA]) rfl HSR.out (atomsL_one _) ?_ ?_ ?_ ?_)
          · unfold maxLen; omega
          · omega
          · simp; omega
          intro v4 w4 hown4 hg4 hne4 hor4
          obtain ⟨g4, c4, e4⟩ := form_of hown4 (by omega)
          subst e4
          have far4 : ∀ {b : Nat} {cs : Array Value} {ty : TypeId}, (wr.alloc (.cells #[.string ⟨#[]⟩, .string ⟨#[]⟩, .string ⟨#[]⟩, .string ⟨#[]⟩, .string ⟨#[]⟩, .bool false, .int .i64 0, .int .i64 (-1), .int .i64 1, .int .i64 1, .int .i64 0, .slice none 0 0] 33)).heap[b]? = some (Obj.cells cs ty (0, 0)) → ty ≠ 33 → w4.heap[b]? = some (Obj.cells cs ty (0, 0)) := fun {b cs ty} hb ht => (hg4.block b (Array.getElem?_eq_some_iff.1 hb).1 (by
            rcases own_ne HAT.out hb (fun e => ht e.symm) with e | e
            · rw [e]; simp
            · first | exact e | exact fun e2 => e e2.symm)).trans hb
          have hb4 := far4 htb (by decide)
          have ht4 := far4 HTU2.out (by decide)
          have p0 := cell_of hb4 (j := 0) rfl
          have p1 := free_of hb4 (j := 0)
          have ho4 : w4.ownsRow w.heap.size 33 12 (.slice (some ⟨g4, 0, none⟩) (l.length + 1) c4) (l ++ [(zeroA, [])]).length (atomsL (rowsD (l ++ [(zeroA, [])]))) := by
            rw [List.length_append, show rowsD (l ++ [(zeroA, [])]) = rowsD l ++ [zeroA] by simp [rowsD], show atomsL (rowsD l ++ [zeroA]) = atomsL (rowsD l) ++ atomsL [zeroA] by simp [atomsL]]
            exact hown4
          have HFIN := Lib.hid (HSD2.out.atoms (k' := k + 1) hg4 (by simpa using hor4) ho4 (fun y hy => by
            rcases List.mem_append.1 hy with hy | hy
            · exact HSD2.out.sp.rows y hy
            · obtain rfl := List.mem_singleton.1 hy
              exact ⟨zero_row _ _, zero_fine _⟩) (Nat.le_refl _))
          have HTU3 := Lib.hid ((Below.heap_setCell w4 ⟨w.heap.size, 0, none⟩ (.slice (some ⟨g4, 0, none⟩) (l.length + 1) c4) (w.heap.size + 1) (by simp)).trans ht4)
          clear hown4 hg4 hne4 hor4 hb4 ho4 htb ht4 far4
          go_wp2_with fail
          go_roundw
          case rel => exact ⟨r + 1, by omega, by go_num, l ++ [(zeroA, [])], g4, c4, by rw [List.length_append]; exact HFIN.out, by rw [List.length_append, HLL.out]; rfl, HTU3.out⟩
          case measure => simp [intOf]; omega
        · obtain rfl : r = z := by omega
          go_wp2_with fail
          refine (rest_nat nn _ r 120 (by omega) HZ.out (by omega)).mono ?_
          rintro e wx ⟨rfl, rfl⟩
          go_wp2_with fail
          go_meet
          exact mid_of HST.out rfl rfl (by omega) (by omega) rfl
  case rest =>
    obtain ⟨gc, capc, gp, capp, l, p', x, us, hst, hil, hlm, hpm'⟩ := hcut
    have HPM := Lib.hid hpm'
    clear hpm'
    obtain ⟨y0, y1, y2, y3, y4, ym, yt, yb, yn, yd, ye, ya, yl, yc⟩ := x
    have d0 := cell_of hst.tb (j := 0) rfl
    have d1 := cell_of hst.tb (j := 1) rfl
    have hbx : Hid (wc.rangeAt X2.heap.size 0 [.string y0, .string y1, .string y2, .string y3, .string y4, .bool ym, .int .i64 yt, .int .i64 yb, .int .i64 yn, .int .i64 yd, .int .i64 ye, .slice ya yl yc]) := fun j v hj => by
      rw [Nat.zero_add]
      exact cell_of hst.xb (by simpa [atomL] using hj)
    have hth : Hid (wc.there gc (i * 12) 12) := fun j hj => by
      have h1 := atomD_range (w := wc) (g := gc) (o := 0) (t := rowsD l) (rangeOf hst.sp.atoms 0 (l.length * 12) _ (by rw [List.drop_zero, List.take_of_length_le]; rw [atomsL_length, rowsD_length]; exact Nat.le_refl _)) i (by rw [rowsD_length]; exact hil) j _ (List.getElem?_eq_getElem (by simpa [atomL] using hj))
      rw [Nat.zero_add] at h1
      exact ⟨by rw [h1]; rfl, hst.sp.atoms.frozenAt _⟩
    have v0 : wc.cell? ⟨X2.heap.size, 0, none⟩ = some (.string y0) := cell_of hst.xb rfl
    have v1 : wc.cell? ⟨X2.heap.size, 1, none⟩ = some (.string y1) := cell_of hst.xb rfl
    have v2 : wc.cell? ⟨X2.heap.size, 2, none⟩ = some (.string y2) := cell_of hst.xb rfl
    have v3 : wc.cell? ⟨X2.heap.size, 3, none⟩ = some (.string y3) := cell_of hst.xb rfl
    have v4 : wc.cell? ⟨X2.heap.size, 4, none⟩ = some (.string y4) := cell_of hst.xb rfl
    have v5 : wc.cell? ⟨X2.heap.size, 5, none⟩ = some (.bool ym) := cell_of hst.xb rfl
    have v6 : wc.cell? ⟨X2.heap.size, 6, none⟩ = some (.int .i64 yt) := cell_of hst.xb rfl
    have v7 : wc.cell? ⟨X2.heap.size, 7, none⟩ = some (.int .i64 yb) := cell_of hst.xb rfl
    have v8 : wc.cell? ⟨X2.heap.size, 8, none⟩ = some (.int .i64 yn) := cell_of hst.xb rfl
    have v9 : wc.cell? ⟨X2.heap.size, 9, none⟩ = some (.int .i64 yd) := cell_of hst.xb rfl
    have v10 : wc.cell? ⟨X2.heap.size, 10, none⟩ = some (.int .i64 ye) := cell_of hst.xb rfl
    have v11 : wc.cell? ⟨X2.heap.size, 11, none⟩ = some (.slice ya yl yc) := cell_of hst.xb rfl
    have hone : Hid ((List.toArray [.string y0, .string y1, .string y2, .string y3, .string y4, .bool ym, .int .i64 yt, .int .i64 yb, .int .i64 yn, .int .i64 yd, .int .i64 ye, .slice ya yl yc] : Array Value).all (·.oneCell') = true) := all_oneCell_toArray (atomL_one ⟨y0, y1, y2, y3, y4, ym, yt, yb, yn, yd, ye, ya, yl, yc⟩)
    have hsz : Hid ((Tryd.prog.info? 33).map (·.size) = some (List.toArray [.string y0, .string y1, .string y2, .string y3, .string y4, .bool ym, .int .i64 yt, .int .i64 yb, .int .i64 yn, .int .i64 yd, .int .i64 ye, .slice ya yl yc] : Array Value).size) := size_Atom
    have HH := Lib.hid hst
    have ii : (i : Int) < l.length := by omega
    clear hst
    go_wp2_with ((with_reducible show wpList _ _ _ (⟨_, Op.store _ (.tmp 194) _, _, _, _, _⟩ :: _) _ _); refine list_store_stop rfl 33 (.tmp 194) (.tmp 193) (by rfl) gc (i * 12) (List.toArray [.string y0, .string y1, .string y2, .string y3, .string y4, .bool ym, .int .i64 yt, .int .i64 yb, .int .i64 yn, .int .i64 yd, .int .i64 ye, .slice ya yl yc]) (by rfl) (by rfl) (by exact hth.out) (by exact hsz.out) (by exact hone.out) ?_)
    intro w5 hw5
    obtain ⟨hsp5, tb5, rb5, sz5⟩ := HH.out.back hil w5 hw5.out
    have e0' := cell_of tb5 (j := 0) rfl
    have e1' := cell_of tb5 (j := 1) rfl
    have g0 := cell_of rb5 (j := 0) rfl
    have g1 := cell_of rb5 (j := 1) rfl
    have h0' := free_of rb5 (j := 0)
    have h1' := free_of rb5 (j := 1)
    have HS5 := Lib.hid hsp5
    have HTB5 := Lib.hid tb5
    have HRB5 := Lib.hid rb5
    clear hsp5 tb5 rb5 v0 v1 v2 v3 v4 v5 v6 v7 v8 v9 v10 v11
    go_wp2_with fail
    refine bodyPost_ret (v := .agg #[.slice (some ⟨gc, 0, none⟩) l.length capc, .slice (some ⟨gp, 0, none⟩) p'.length capp]) (results_row Tryd.results13 _ _ (w.heap.size + 1 + 1) [.slice (some ⟨gc, 0, none⟩) l.length capc, .slice (some ⟨gp, 0, none⟩) p'.length capp] _ (by rfl) (by exact two_cells g0 g1) Tryd.underlying27 rfl (by kernel_rfl)) rfl ?_
    have hx5 := HS5.out.box HRB5.out HH.out.lo.2.1 0 (.slice (some ⟨gc, 0, none⟩) l.length capc)
    have hx6 := hx5.box (heap_setCell_same w5 (w.heap.size + 1 + 1) 0 _ _ _ HRB5.out) HH.out.lo.2.1 1 (.slice (some ⟨gp, 0, none⟩) p'.length capp)
    rw [List.length_set] at hx6
    exact sp_final hx6 (by rw [List.length_set]) rfl (by rw [List.length_set]; exact hlm) (by have := HPM.out; omega) (by omega)
end Go.Proofs.YtiinppicdhidhaaDoor
