/-
  The law AtomsTells: the walk.
-/
import Derived.Test.YtiinppicdhidhaaDoorSa
import Derived.Test.YtiinppicdhidhaaDoorRt2
set_option linter.unusedVariables false
set_option linter.unusedSimpArgs false
namespace Go.Proofs.YtiinppicdhidhaaDoor
open Go.RowKit
open Go.Proofs

/-- All blocks from B on are as they were. -/
structure Above (B : Nat) (V X : World) : Prop where
  size : V.heap.size ≤ X.heap.size
  block : ∀ r, B ≤ r → r < V.heap.size → X.heap[r]? = V.heap[r]?
theorem Above.refl (B : Nat) (V : World) : Above B V V := ⟨Nat.le_refl _, fun _ _ _ => rfl⟩
theorem Above.set {B : Nat} {V X : World} (h : Above B V X) (g j : Nat) (v : Value) (hg : g < B) : Above B V (X.setCell ⟨g, j, none⟩ v) :=
  ⟨by simpa using h.size, fun r h1 h2 => (Below.heap_setCell X ⟨g, j, none⟩ v r (by intro e; have : r = g := e; omega)).trans (h.block r h1 h2)⟩
theorem Above.under {B : Nat} {V X Y : World} (h : Above B V X) (hb : Below X.heap.size X Y) : Above B V Y :=
  ⟨Nat.le_trans h.size hb.size, fun r h1 h2 => (hb.block r (Nat.lt_of_lt_of_le h2 h.size)).trans (h.block r h1 h2)⟩
theorem Above.cell {B : Nat} {V X : World} (h : Above B V X) {g j : Nat} {v : Value} (hg : B ≤ g) (hc : V.cell? ⟨g, j, none⟩ = some v) : X.cell? ⟨g, j, none⟩ = some v :=
  (World.cell?_of_block (w := V) (h.block g hg (World.block_lt_of_cell? _ _ hc))).trans hc
theorem own_above {B B2 e z n : Nat} {V X : World} {v : Value} {xs : List Value} (h : V.ownsRow B2 e z v n xs) (hA : Above B V X) (hB : B ≤ B2) : X.ownsRow B2 e z v n xs := by
  refine ⟨h.1, ?_⟩
  rcases h.2 with h0 | ⟨g, cap, cur, hv, hb, hh, r⟩
  · exact .inl h0
  · exact .inr ⟨g, cap, cur, hv, hb, (hA.block g (by omega) (Array.getElem?_eq_some_iff.1 hh).1).trans hh, r⟩
theorem table_above {B B2 : Nat} {V X : World} {va vp : Value} {ss : Nat → Value} (h : TableAt B2 V va vp ss) (hA : Above B V X) (hB : B ≤ B2) : TableAt B2 X va vp ss :=
  ⟨own_above h.atoms hA hB, own_above h.pres hA hB, fun i hi => ⟨own_above (h.terms i hi).own hA hB, (h.terms i hi).nil⟩⟩
def atomRow (a : Nat) (ta : Option Addr) (c : Nat) : List Value := atomList a (baseAt a) (.slice ta (rowAt a).terms.length c)
theorem row_at {B g c1 : Nat} {X : World} {vp : Value} {ss : Nat → Value} (h : TableAt B X (.slice (some ⟨g, 0, none⟩) 48 c1) vp ss) {a : Nat} (ha : a < 48) : ∃ ta c, X.rangeAt g (a * 12) (atomRow a ta c) ∧ TermsIn X ta (rowAt a).terms ∧ ss a = .slice ta (rowAt a).terms.length c := by
  obtain ⟨ta, n, c, e⟩ := h.slices a ha
  have ht := h.terms a ha
  rw [e] at ht
  obtain ⟨h1, h2⟩ := terms_in ht
  subst h1
  have hr := atom_range h.atoms a ha
  rw [e] at hr
  exact ⟨ta, c, hr, h2, e⟩
theorem pre_at {B g c2 : Nat} {X : World} {va : Value} {ss : Nat → Value} (h : TableAt B X va (.slice (some ⟨g, 0, none⟩) 20 c2) ss) {k : Nat} (hk : k < 20) : X.rangeAt g (k * 6) (preList k) := pre_range h.pres k hk
theorem info_Pfx : (Tryd.prog.underlying 35) = some (.struct (Tryd.prog.fieldsOf 35)) := by
  have h := Tryd.underlying35
  rw [Program.fieldsOf, h]
theorem fields_Pfx : (Tryd.prog.fieldsOf 35).toList.map (fun f => (f.name, f.type, f.offset)) = [("Codes", 30, 0), ("Ten", 3, 5)] := by kernel_rfl
theorem stood_Pfx : Tryd.prog.stoodInHeld 35 = false := by kernel_rfl
theorem eqF_same (z0 z1 z2 z3 z4 : ByteArray) (zt : Int) (W : World) : (Op.equalIn 10000 35 (.agg #[.string z0, .string z1, .string z2, .string z3, .string z4, .int .i64 zt]) (.agg #[.string z0, .string z1, .string z2, .string z3, .string z4, .int .i64 zt])).run Tryd.prog W = .ok true W := by
  rw [run_equalIn_struct W 9999 _ _ _ info_Pfx stood_Pfx]
  have hf := fields_Pfx
  have he5 := eq5_same 9997 z0 z1 z2 z3 z4 W
  have hu5 := Tryd.underlying30
  have hui := Tryd.underlying3
  generalize (Tryd.prog.fieldsOf 35).toList = fs at hf ⊢
  rcases fs with _ | ⟨f1, _ | ⟨f2, _ | ⟨f3, fs⟩⟩⟩
  · simp at hf
  · simp at hf
  · simp only [List.map_cons, List.map_nil, List.cons.injEq, Prod.mk.injEq, and_true] at hf
    obtain ⟨⟨h1, h2, h3⟩, h4, h5, h6⟩ := hf
    simp [Op.eqFields, h1, h2, h3, h4, h5, h6, go_sem, hu5, hui, he5]
  · simp at hf
set_option maxRecDepth 100000 in
set_option maxHeartbeats 8000000 in
theorem atomsTells_any (i k : Int) (w : World) (hL : Laid w) (hN : NotesAt w) (hF : TensAt w) : Calls Tryd.prog 3 #[.int .i64 i, .int .i64 k] w fun e w' => e = .returned (.bool true) ∧ Below w.heap.size w w' := by
  have HL := Lib.hid hL
  have HN := Lib.hid hN
  have HF := Lib.hid hF
  clear hL hN hF
  obtain ⟨a, ha, ha2⟩ := rest_of i 48 (by omega)
  obtain ⟨p, hp, hp2⟩ := rest_of k 20 (by omega)
  have HA := Lib.hid ha2
  have HP := Lib.hid hp2
  clear ha2 hp2
  go_enter Tryd.func3, Tryd.ntmps3
  go_wp2_with fail
  refine (awake_any _ HL.out HN.out HF.out).mono ?_
  rintro e w0 ⟨rfl, hb0⟩
  have HL0 := Lib.hid (laid_below HL.out hb0)
  have HB0 := Lib.hid hb0
  clear hb0
  go_wp2_with fail
  refine (rest_nat i _ a 48 (by omega) HA.out (by omega)).mono ?_
  rintro e wx ⟨rfl, rfl⟩
  go_wp2_with fail
  refine (rest_nat k _ p 20 (by omega) HP.out (by omega)).mono ?_
  rintro e wx ⟨rfl, rfl⟩
  go_wp2_with fail
  refine (tab_ok _ HL0.out).mono ?_
  intro e w1 h1
  obtain ⟨g, c1, v2, c2, ss, rfl, hr, hg, ht, hb1⟩ := h1
  obtain ⟨g2, c2', e2⟩ := form_of ht.pres (by omega)
  simp only [Value.slice.injEq] at e2
  obtain ⟨rfl, -, rfl⟩ := e2
  have HB1 := Lib.hid (HB0.out.trans (hb1.mono HB0.out.size))
  have HTA := Lib.hid ht
  have HL1 := Lib.hid (laid_below (laid_below HL0.out hb1) ((Below.refl _ _).alloc (Nat.le_refl _) (.cells #[.slice (some ⟨g, 0, none⟩) 48 c1, .slice (some ⟨g2, 0, none⟩) 20 c2] 27)))
  clear ht hb1 hg hr
  go_wp2_with fail
  obtain ⟨W1, hW1⟩ : ∃ W, w1.alloc (.cells #[.slice (some ⟨g, 0, none⟩) 48 c1, .slice (some ⟨g2, 0, none⟩) 20 c2] 27) = W := ⟨_, rfl⟩
  have hs1 : W1.heap.size = w1.heap.size + 1 := by rw [← hW1]; simp
  have hbW1 : Below w1.heap.size w1 W1 := by rw [← hW1]; exact (Below.refl _ _).alloc (Nat.le_refl _) _
  have ta0 : W1.cell? ⟨w1.heap.size, 0, none⟩ = some (.slice (some ⟨g, 0, none⟩) 48 c1) := by rw [← hW1]; exact cellNew _ _ _ 0 _ rfl
  have ta1 : W1.cell? ⟨w1.heap.size, 1, none⟩ = some (.slice (some ⟨g2, 0, none⟩) 20 c2) := by rw [← hW1]; exact cellNew _ _ _ 1 _ rfl
  rw [hW1] at HL1 ⊢
  refine (tab_ok _ HL1.out).mono ?_
  intro e w2 h2
  obtain ⟨gb, cb1, vb2, cb2, sb, rfl, hrb, hgb, htb, hb2⟩ := h2
  obtain ⟨gb2, cb2', eb2⟩ := form_of htb.pres (by omega)
  simp only [Value.slice.injEq] at eb2
  obtain ⟨rfl, -, rfl⟩ := eb2
  have hb02 := HB1.out.trans ((hbW1.trans (hb2.mono hbW1.size)).mono HB1.out.size)
  have HB2 := Lib.hid hb02
  have HTB := Lib.hid htb
  have HTA2 := Lib.hid ((HTA.out.below hbW1).below hb2)
  have ta02 := cell_under ta0 hb2
  have ta12 := cell_under ta1 hb2
  have hs2 := hb2.size
  have HL2 := Lib.hid (laid_below HL1.out hb2)
  clear htb hb2 hgb hrb hW1 ta0 ta1 hb02 hbW1
  go_wp2_with fail
  obtain ⟨W2, hW2⟩ : ∃ W, w2.alloc (.cells #[.slice (some ⟨gb, 0, none⟩) 48 cb1, .slice (some ⟨gb2, 0, none⟩) 20 cb2] 27) = W := ⟨_, rfl⟩
  have hs22 : W2.heap.size = w2.heap.size + 1 := by rw [← hW2]; simp
  have hbW2 : Below w2.heap.size w2 W2 := by rw [← hW2]; exact (Below.refl _ _).alloc (Nat.le_refl _) _
  have tb0 : W2.cell? ⟨w2.heap.size, 0, none⟩ = some (.slice (some ⟨gb, 0, none⟩) 48 cb1) := by rw [← hW2]; exact cellNew _ _ _ 0 _ rfl
  have tb1 : W2.cell? ⟨w2.heap.size, 1, none⟩ = some (.slice (some ⟨gb2, 0, none⟩) 20 cb2) := by rw [← hW2]; exact cellNew _ _ _ 1 _ rfl
  rw [hW2]
  refine (refTable_ok W2).mono ?_
  intro e w3 h3
  obtain ⟨ar, cr1, vr2, cr2, sr, rfl, htr, hb3⟩ := h3
  obtain ⟨gr, cr1', er⟩ := form_of htr.atoms (by omega)
  obtain ⟨gr2, cr2', er2⟩ := form_of htr.pres (by omega)
  simp only [Value.slice.injEq] at er er2
  obtain ⟨rfl, -, rfl⟩ := er
  obtain ⟨rfl, -, rfl⟩ := er2
  have hbb := hbW2.trans (hb3.mono hbW2.size)
  have HB3 := Lib.hid (HB2.out.trans (hbb.mono HB2.out.size))
  have HTA3 := Lib.hid (HTA2.out.below hbb)
  have HTB3 := Lib.hid (HTB.out.below hbb)
  have HTR := Lib.hid htr
  have ta03 := cell_under ta02 hbb
  have ta13 := cell_under ta12 hbb
  have tb03 := cell_under tb0 hb3
  have tb13 := cell_under tb1 hb3
  have hs3 := hb3.size
  clear htr hb3 hW2 tb0 tb1 hbW2 hbb ta02 ta12
  have qa0 := cellAlloc (.cells #[.slice (some ⟨gr, 0, none⟩) 48 cr1, .slice (some ⟨gr2, 0, none⟩) 20 cr2] 27) ta03
  have qa1 := cellAlloc (.cells #[.slice (some ⟨gr, 0, none⟩) 48 cr1, .slice (some ⟨gr2, 0, none⟩) 20 cr2] 27) ta13
  have qb0 := cellAlloc (.cells #[.slice (some ⟨gr, 0, none⟩) 48 cr1, .slice (some ⟨gr2, 0, none⟩) 20 cr2] 27) tb03
  have qb1 := cellAlloc (.cells #[.slice (some ⟨gr, 0, none⟩) 48 cr1, .slice (some ⟨gr2, 0, none⟩) 20 cr2] 27) tb13
  have HZ1 := Lib.hid hs1
  have HZ2 := Lib.hid hs2
  have HZ3 := Lib.hid hs22
  have HZ4 := Lib.hid hs3
  clear hs1 hs2 hs22 hs3
  go_wp2_with fail
  obtain ⟨V, hV⟩ : ∃ W, w3.alloc (.cells #[.slice (some ⟨gr, 0, none⟩) 48 cr1, .slice (some ⟨gr2, 0, none⟩) 20 cr2] 27) = W := ⟨_, rfl⟩
  have hsV : V.heap.size = w3.heap.size + 1 := by rw [← hV]; simp
  have hbV : Below w3.heap.size w3 V := by rw [← hV]; exact (Below.refl _ _).alloc (Nat.le_refl _) _
  have tr0 : V.cell? ⟨w3.heap.size, 0, none⟩ = some (.slice (some ⟨gr, 0, none⟩) 48 cr1) := by rw [← hV]; exact cellNew _ _ _ 0 _ rfl
  have tr1 : V.cell? ⟨w3.heap.size, 1, none⟩ = some (.slice (some ⟨gr2, 0, none⟩) 20 cr2) := by rw [← hV]; exact cellNew _ _ _ 1 _ rfl
  rw [hV]
  have ta0 := cell_under ta03 hbV
  have ta1 := cell_under ta13 hbV
  have tb0 := cell_under tb03 hbV
  have tb1 := cell_under tb13 hbV
  have HBV := Lib.hid (HB3.out.trans (hbV.mono HB3.out.size))
  have HA4 := Lib.hid (HTA3.out.below hbV)
  have HB4 := Lib.hid (HTB3.out.below hbV)
  have HR4 := Lib.hid (HTR.out.below hbV)
  have HZ5 := Lib.hid hsV
  clear hbV hV ta03 ta13 tb03 tb13 qa0 qa1 qb0 qb1 hsV
  obtain ⟨x0, x1, x2, x3, x4, xm, xt, xb, xn, xd, xe, hx⟩ : ∃ x0 x1 x2 x3 x4 xm xt xb xn xd xe, ∀ ta c, atomRow a ta c = [.string x0, .string x1, .string x2, .string x3, .string x4, .bool xm, .int .i64 xt, .int .i64 xb, .int .i64 xn, .int .i64 xd, .int .i64 xe, .slice ta (rowAt a).terms.length c] := ⟨_, _, _, _, _, _, _, _, _, _, _, fun _ _ => rfl⟩
  obtain ⟨z0, z1, z2, z3, z4, zt, hz⟩ : ∃ z0 z1 z2 z3 z4 zt, preList p = [.string z0, .string z1, .string z2, .string z3, .string z4, .int .i64 zt] := ⟨_, _, _, _, _, _, rfl⟩
  obtain ⟨sa, ca, ra, qa, ea⟩ := row_at HA4.out ha
  obtain ⟨sb', cb, rb, qb, eb⟩ := row_at HB4.out ha
  obtain ⟨sr', cr, rr, qr, er⟩ := row_at HR4.out ha
  have pa := pre_at HA4.out hp
  have pb := pre_at HB4.out hp
  have pr := pre_at HR4.out hp
  have htl := terms_few a ha
  rw [tabT] at htl
  have hta := HA4.out.terms a ha
  rw [ea] at hta
  have HTT := Lib.hid hta
  have HEB := Lib.hid eb
  have HER := Lib.hid er
  clear hta eb er
  rw [hx] at ra rb rr
  rw [hz] at pa pr pb
  have HRX := Lib.hid hx
  have HRZ := Lib.hid hz
  clear hx hz
  obtain ⟨ts, hts⟩ : ∃ ts, (rowAt a).terms = ts := ⟨_, rfl⟩
  rw [hts] at ra rb rr qa qb qr htl
  have HTS := Lib.hid hts
  have HEA := Lib.hid ea
  have HQA := Lib.hid qa
  have HQB := Lib.hid qb
  have HQR := Lib.hid qr
  clear hts ea qa qb qr
  have a0 : V.cell? ⟨g, a * 12, none⟩ = some (.string x0) := ra 0 _ rfl
  have a1 : V.cell? ⟨g, a * 12 + 1, none⟩ = some (.string x1) := ra 1 _ rfl
  have a2 : V.cell? ⟨g, a * 12 + 2, none⟩ = some (.string x2) := ra 2 _ rfl
  have a3 : V.cell? ⟨g, a * 12 + 3, none⟩ = some (.string x3) := ra 3 _ rfl
  have a4 : V.cell? ⟨g, a * 12 + 4, none⟩ = some (.string x4) := ra 4 _ rfl
  have a5 : V.cell? ⟨g, a * 12 + 5, none⟩ = some (.bool xm) := ra 5 _ rfl
  have a6 : V.cell? ⟨g, a * 12 + 6, none⟩ = some (.int .i64 xt) := ra 6 _ rfl
  have a7 : V.cell? ⟨g, a * 12 + 7, none⟩ = some (.int .i64 xb) := ra 7 _ rfl
  have a8 : V.cell? ⟨g, a * 12 + 8, none⟩ = some (.int .i64 xn) := ra 8 _ rfl
  have a9 : V.cell? ⟨g, a * 12 + 9, none⟩ = some (.int .i64 xd) := ra 9 _ rfl
  have a10 : V.cell? ⟨g, a * 12 + 10, none⟩ = some (.int .i64 xe) := ra 10 _ rfl
  have a11 : V.cell? ⟨g, a * 12 + 11, none⟩ = some (.slice sa ts.length ca) := ra 11 _ rfl
  have r0 : V.cell? ⟨gr, a * 12, none⟩ = some (.string x0) := rr 0 _ rfl
  have r1 : V.cell? ⟨gr, a * 12 + 1, none⟩ = some (.string x1) := rr 1 _ rfl
  have r2 : V.cell? ⟨gr, a * 12 + 2, none⟩ = some (.string x2) := rr 2 _ rfl
  have r3 : V.cell? ⟨gr, a * 12 + 3, none⟩ = some (.string x3) := rr 3 _ rfl
  have r4 : V.cell? ⟨gr, a * 12 + 4, none⟩ = some (.string x4) := rr 4 _ rfl
  have r5 : V.cell? ⟨gr, a * 12 + 5, none⟩ = some (.bool xm) := rr 5 _ rfl
  have r6 : V.cell? ⟨gr, a * 12 + 6, none⟩ = some (.int .i64 xt) := rr 6 _ rfl
  have r7 : V.cell? ⟨gr, a * 12 + 7, none⟩ = some (.int .i64 xb) := rr 7 _ rfl
  have r8 : V.cell? ⟨gr, a * 12 + 8, none⟩ = some (.int .i64 xn) := rr 8 _ rfl
  have r9 : V.cell? ⟨gr, a * 12 + 9, none⟩ = some (.int .i64 xd) := rr 9 _ rfl
  have r10 : V.cell? ⟨gr, a * 12 + 10, none⟩ = some (.int .i64 xe) := rr 10 _ rfl
  have r11 : V.cell? ⟨gr, a * 12 + 11, none⟩ = some (.slice sr' ts.length cr) := rr 11 _ rfl
  have HRB := Lib.hid rb
  have HRR := Lib.hid rr
  have HPA := Lib.hid pa
  have HPB := Lib.hid pb
  have HPR := Lib.hid pr
  clear ra rb rr pa pr pb
  have hi1 : (a : Int) < 48 := by omega
  have hi2 : (p : Int) < 20 := by omega
  go_region_held3 (fun w' => w'.cell? ⟨w1.heap.size, 0, none⟩ = some (.slice (some ⟨g, 0, none⟩) 48 c1) ∧ w'.cell? ⟨w3.heap.size, 0, none⟩ = some (.slice (some ⟨gr, 0, none⟩) 48 cr1) ∧ w'.cell? ⟨g, a * 12, none⟩ = some (.string x0) ∧ w'.cell? ⟨g, a * 12 + 1, none⟩ = some (.string x1) ∧ w'.cell? ⟨g, a * 12 + 2, none⟩ = some (.string x2) ∧ w'.cell? ⟨g, a * 12 + 3, none⟩ = some (.string x3) ∧ w'.cell? ⟨g, a * 12 + 4, none⟩ = some (.string x4) ∧ w'.cell? ⟨g, a * 12 + 5, none⟩ = some (.bool xm) ∧ w'.cell? ⟨g, a * 12 + 6, none⟩ = some (.int .i64 xt) ∧ w'.cell? ⟨g, a * 12 + 7, none⟩ = some (.int .i64 xb) ∧ w'.cell? ⟨g, a * 12 + 8, none⟩ = some (.int .i64 xn) ∧ w'.cell? ⟨g, a * 12 + 9, none⟩ = some (.int .i64 xd) ∧ w'.cell? ⟨g, a * 12 + 10, none⟩ = some (.int .i64 xe) ∧ w'.cell? ⟨g, a * 12 + 11, none⟩ = some (.slice sa ts.length ca) ∧ w'.cell? ⟨gr, a * 12, none⟩ = some (.string x0) ∧ w'.cell? ⟨gr, a * 12 + 1, none⟩ = some (.string x1) ∧ w'.cell? ⟨gr, a * 12 + 2, none⟩ = some (.string x2) ∧ w'.cell? ⟨gr, a * 12 + 3, none⟩ = some (.string x3) ∧ w'.cell? ⟨gr, a * 12 + 4, none⟩ = some (.string x4) ∧ w'.cell? ⟨gr, a * 12 + 5, none⟩ = some (.bool xm) ∧ w'.cell? ⟨gr, a * 12 + 6, none⟩ = some (.int .i64 xt) ∧ w'.cell? ⟨gr, a * 12 + 7, none⟩ = some (.int .i64 xb) ∧ w'.cell? ⟨gr, a * 12 + 8, none⟩ = some (.int .i64 xn) ∧ w'.cell? ⟨gr, a * 12 + 9, none⟩ = some (.int .i64 xd) ∧ w'.cell? ⟨gr, a * 12 + 10, none⟩ = some (.int .i64 xe) ∧ w'.cell? ⟨gr, a * 12 + 11, none⟩ = some (.slice sr' ts.length cr))
    (first | go_keep | ((repeat' apply And.intro) <;> exact cell_under (w := V.drew) ((World.cell?_drew V _).trans (by assumption)) hbV2))
    ((go_at_call 12; refine (same_yes x0 x1 x2 x3 x4 xm xt xb xn xd xe sa ca sr' cr ts _ (by exact HQA.out) (by exact HQR.out) (by omega)).mono ?_; rintro e V2 ⟨rfl, hbV2⟩))
  have hbv : Below V.heap.size V V2 := ((Below.refl V.heap.size V).drew).trans hbV2
  have HBV2 := Lib.hid (HBV.out.trans (hbv.mono HBV.out.size))
  have HA5 := Lib.hid (HA4.out.below hbv)
  have HB5 := Lib.hid (HB4.out.below hbv)
  have HR5 := Lib.hid (HR4.out.below hbv)
  have ua0 := cell_under ta0 hbv
  have ua1 := cell_under ta1 hbv
  have ub0 := cell_under tb0 hbv
  have ub1 := cell_under tb1 hbv
  have ur0 := cell_under tr0 hbv
  have ur1 := cell_under tr1 hbv
  have a11' := cell_under a11 hbv
  have a0' := cell_under a0 hbv
  have HP5 := Lib.hid (range_under HPA.out hbv)
  have HPB5 := Lib.hid (range_under HPB.out hbv)
  have HPR5 := Lib.hid (range_under HPR.out hbv)
  have HRB5 := Lib.hid (range_under HRB.out hbv)
  have HRR5 := Lib.hid (range_under HRR.out hbv)
  have HVV := Lib.hid hbv
  clear hbV2 hbv ta0 ta1 tb0 tb1 tr0 tr1 a0 a1 a2 a3 a4 a5 a6 a7 a8 a9 a10 a11 r0 r1 r2 r3 r4 r5 r6 r7 r8 r9 r10 r11
  have p0 : V2.cell? ⟨g2, p * 6, none⟩ = some (.string z0) := HP5.out 0 _ rfl
  have p1 : V2.cell? ⟨g2, p * 6 + 1, none⟩ = some (.string z1) := HP5.out 1 _ rfl
  have p2 : V2.cell? ⟨g2, p * 6 + 2, none⟩ = some (.string z2) := HP5.out 2 _ rfl
  have p3 : V2.cell? ⟨g2, p * 6 + 3, none⟩ = some (.string z3) := HP5.out 3 _ rfl
  have p4 : V2.cell? ⟨g2, p * 6 + 4, none⟩ = some (.string z4) := HP5.out 4 _ rfl
  have p5 : V2.cell? ⟨g2, p * 6 + 5, none⟩ = some (.int .i64 zt) := HP5.out 5 _ rfl
  have q0 : V2.cell? ⟨gr2, p * 6, none⟩ = some (.string z0) := HPR5.out 0 _ rfl
  have q1 : V2.cell? ⟨gr2, p * 6 + 1, none⟩ = some (.string z1) := HPR5.out 1 _ rfl
  have q2 : V2.cell? ⟨gr2, p * 6 + 2, none⟩ = some (.string z2) := HPR5.out 2 _ rfl
  have q3 : V2.cell? ⟨gr2, p * 6 + 3, none⟩ = some (.string z3) := HPR5.out 3 _ rfl
  have q4 : V2.cell? ⟨gr2, p * 6 + 4, none⟩ = some (.string z4) := HPR5.out 4 _ rfl
  have q5 : V2.cell? ⟨gr2, p * 6 + 5, none⟩ = some (.int .i64 zt) := HPR5.out 5 _ rfl
  have heq := fun W => eqF_same z0 z1 z2 z3 z4 zt W
  go_wp2_with fail
  go_quiet (fail)
  obtain ⟨V3, hV3⟩ : ∃ W, V2.drewN nq = W := ⟨_, rfl⟩
  have hb3 : Below V2.heap.size V2 V3 := by rw [← hV3]; exact below_drewQ (Below.refl _ _) _
  rw [hV3]
  have HBV3 := Lib.hid (HBV2.out.trans (hb3.mono HBV2.out.size))
  have va0 := cell_under ua0 hb3
  have va1 := cell_under ua1 hb3
  have b11 := cell_under a11' hb3
  have b0 := cell_under a0' hb3
  have p5' := cell_under p5 hb3
  have HA6 := Lib.hid (HA5.out.below hb3)
  have HAB : Hid (Above w1.heap.size V3 V3) := Above.refl _ _
  have HB6 := Lib.hid (HB5.out.below hb3)
  have HR6 := Lib.hid (HR5.out.below hb3)
  have HUB0 := Lib.hid (cell_under ub0 hb3)
  have HUB1 := Lib.hid (cell_under ub1 hb3)
  have HUR0 := Lib.hid (cell_under ur0 hb3)
  have HUR1 := Lib.hid (cell_under ur1 hb3)
  have HPB6 := Lib.hid (range_under HPB5.out hb3)
  have HPR6 := Lib.hid (range_under HPR5.out hb3)
  have HRB6 := Lib.hid (range_under HRB5.out hb3)
  have HRR6 := Lib.hid (range_under HRR5.out hb3)
  have lg := (HTA.out.atoms.lt g rfl).2
  have lg2 := (HTA.out.pres.lt g2 rfl).2
  have lw := (HTA.out.atoms.lt g rfl).1
  have lw2 := (HTA.out.pres.lt g2 rfl).1
  have l0 : w.heap.size ≤ w0.heap.size := HB0.out.size
  have f5 : V3.frozen? ⟨g2, p * 6 + 5, none⟩ = false := HA6.out.pres.frozenAt _
  have f0 : V3.frozen? ⟨g, a * 12, none⟩ = false := HA6.out.atoms.frozenAt _
  have gg : g ≠ g2 := by
    rcases own_own HA6.out.atoms HA6.out.pres (by decide) with h | h
    · simp [Value.ownBlock] at h
    · simpa [Value.ownBlock] using h
  obtain ⟨X1, hX1⟩ : ∃ W, V3.setCell ⟨g2, p * 6 + 5, none⟩ (.int .i64 99) = W := ⟨_, rfl⟩
  obtain ⟨X2, hX2⟩ : ∃ W, X1.setCell ⟨g, a * 12, none⟩ (.string ⟨#[120]⟩) = W := ⟨_, rfl⟩
  have HX1 := Lib.hid hX1
  have HX2 := Lib.hid hX2
  have hab2 : Above w1.heap.size V3 X2 := by rw [← hX2, ← hX1]; exact ((Above.refl _ _).set _ _ _ lg2).set _ _ _ lg
  have hbx2 : Below w.heap.size w X2 := by rw [← hX2, ← hX1]; exact (HBV3.out.setCell (p := ⟨g2, p * 6 + 5, none⟩) (by show w.heap.size ≤ g2; omega) _).setCell (p := ⟨g, a * 12, none⟩) (by show w.heap.size ≤ g; omega) _
  have c1' : (V3.setCell ⟨g2, p * 6 + 5, none⟩ (.int .i64 99)).cell? ⟨w1.heap.size, 0, none⟩ = some (.slice (some ⟨g, 0, none⟩) 48 c1) := (World.cell?_setCell_far _ _ _ _ (by show g2 ≠ w1.heap.size; omega)).trans va0
  have c2' : (V3.setCell ⟨g2, p * 6 + 5, none⟩ (.int .i64 99)).cell? ⟨g, a * 12, none⟩ = some (.string x0) := (World.cell?_setCell_far _ _ _ _ (by show g2 ≠ g; exact gg.symm)).trans b0
  have c3' : X2.cell? ⟨g, a * 12 + 11, none⟩ = some (.slice sa ts.length ca) := by
    rw [← hX2, ← hX1]
    exact (World.cell?_setCell_other _ _ _ _ (by intro e; injection e with e1 e2; omega)).trans ((World.cell?_setCell_far _ _ _ _ (by show g2 ≠ g; exact gg.symm)).trans b11)
  have hsl : V3.ownsRow w0.heap.size 37 2 (.slice sa ts.length ca) ts.length (termsV ts) := by
    have h := (HA6.out.terms a ha).own
    rw [HEA.out, HTS.out] at h
    exact h
  have hsl2 : X2.ownsRow w0.heap.size 37 2 (.slice sa ts.length ca) ts.length (termsV ts) := by
    have k1 := hsl.kept (grownBy_setCell V3 ⟨g2, p * 6 + 5, none⟩ (.int .i64 99)) (own_own hsl HA6.out.pres (by decide))
    rw [hX1] at k1
    have k2 := k1.kept (grownBy_setCell X1 ⟨g, a * 12, none⟩ (.string ⟨#[120]⟩)) (own_own hsl HA6.out.atoms (by decide))
    rw [hX2] at k2
    exact k2
  have hlt1 : ∀ gt, sa = some ⟨gt, 0, none⟩ → gt < w1.heap.size ∧ gt ≠ g ∧ w.heap.size ≤ gt := by
    intro gt e
    have h := (HTA.out.terms a ha).own
    rw [HEA.out, HTS.out, e] at h
    refine ⟨(h.lt gt rfl).2, ?_, by have := (h.lt gt rfl).1; omega⟩
    rcases own_own h HTA.out.atoms (by decide) with h | h
    · simp [Value.ownBlock] at h
    · simpa [Value.ownBlock] using h
  have HAB2 := Lib.hid hab2
  have HBX2 := Lib.hid hbx2
  have HSL := Lib.hid hsl2
  have HC3 := Lib.hid c3'
  have HLT := Lib.hid hlt1
  have HVA0 := Lib.hid va0
  clear hb3 hV3 ua0 ua1 ub0 ub1 ur0 ur1 a11' a0' b11 b0 p0 p1 p2 p3 p4 q0 q1 q2 q3 q4 q5 hab2 hbx2 hsl2 c3' hlt1 hsl hX1 hX2 heq p5
  go_wp2_with fail
  rw [HX1.out, HX2.out]
  go_loopw [13] (fun i wr => ∃ k : Nat, k ≤ ts.length ∧ i = .int .i64 (k : Int) ∧ (∃ cs, wr.ownsRow w0.heap.size 37 2 (.slice sa ts.length ca) ts.length cs) ∧ wr.cell? ⟨g, a * 12 + 11, none⟩ = some (.slice sa ts.length ca) ∧ Above w1.heap.size V3 wr ∧ Below w.heap.size w wr) (fun i _ => ts.length - (intOf i).toNat)
  case atStart => exact ⟨0, by omega, rfl, ⟨_, HSL.out⟩, HC3.out, HAB2.out, HBX2.out⟩
  case round =>
    obtain ⟨k, hk, rfl, ⟨cs, hown⟩, h11, hab, hbx⟩ := hrel
    have d0 := hab.cell (Nat.le_refl _) HVA0.out
    by_cases hlt : k < ts.length
    · have k1 : (k : Int) < ts.length := by omega
      obtain ⟨gt, ct, he⟩ := form_of hown (by omega)
      simp only [Value.slice.injEq] at he
      obtain ⟨rfl, -, rfl⟩ := he
      obtain ⟨y1, y2, y3⟩ := HLT.out gt rfl
      have hlen := hown.1
      obtain ⟨u0, e1⟩ : ∃ u0, wr.cell? ⟨gt, k * 2 + 1, none⟩ = some u0 := by
        refine ⟨cs[k * 2 + 1]'(by omega), ?_⟩
        have := hown.cells (g := gt) rfl (k * 2 + 1) _ (List.getElem?_eq_getElem (by omega))
        rw [addPlain] at this
        exact this
      have e2 : wr.frozen? ⟨gt, k * 2 + 1, none⟩ = false := hown.frozenAt _
      have hown2 := hown.stored (k * 2 + 1) (.int .i64 99)
      have HO2 := Lib.hid hown2.1
      have H11 := Lib.hid ((World.cell?_setCell_far wr ⟨gt, k * 2 + 1, none⟩ ⟨g, a * 12 + 11, none⟩ (.int .i64 99) y2).trans h11)
      have HAB3 := Lib.hid (hab.set gt (k * 2 + 1) (.int .i64 99) y1)
      have HBX3 := Lib.hid (hbx.setCell (p := ⟨gt, k * 2 + 1, none⟩) y3 (.int .i64 99))
      clear hown hown2 hab hbx hlen
      go_wp2_with fail
      go_roundw
      case rel => exact ⟨k + 1, by omega, by go_num, ⟨_, HO2.out⟩, H11.out, HAB3.out, HBX3.out⟩
      case measure => simp [intOf]; omega
    · obtain rfl : k = ts.length := by omega
      have hz1 : W1.heap.size = w1.heap.size + 1 := HZ1.out
      have hz2 : W1.heap.size ≤ w2.heap.size := HZ2.out
      have hz3 : W2.heap.size = w2.heap.size + 1 := HZ3.out
      have hz4 : W2.heap.size ≤ w3.heap.size := HZ4.out
      have HBT := Lib.hid (table_above HB6.out hab (by omega))
      have HRT := Lib.hid (table_above HR6.out hab (by omega))
      have lb := (HBT.out.atoms.lt gb rfl).1
      have lr := (HRT.out.atoms.lt gr rfl).1
      have lb2 := (HBT.out.pres.lt gb2 rfl).1
      have lr2 := (HRT.out.pres.lt gr2 rfl).1
      have ab : ∀ (gx o : Nat) (l : List Value), w1.heap.size ≤ gx → V3.rangeAt gx o l → wr.rangeAt gx o l := fun gx o l h1 h2 j v hj => hab.cell h1 (h2 j v hj)
      have xb0 := hab.cell (by omega) HUB0.out
      have xb1 := hab.cell (by omega) HUB1.out
      have xr0 := hab.cell (by omega) HUR0.out
      have xr1 := hab.cell (by omega) HUR1.out
      have rb2 := ab gb _ _ (by omega) HRB6.out
      have rr2 := ab gr _ _ (by omega) HRR6.out
      have pb2 := ab gb2 _ _ (by omega) HPB6.out
      have pr2 := ab gr2 _ _ (by omega) HPR6.out
      have qb2 : TermsIn wr sb' ts := by
        have h := HBT.out.terms a ha
        rw [HEB.out, HTS.out] at h
        exact (terms_in h).2
      have qr2 : TermsIn wr sr' ts := by
        have h := HRT.out.terms a ha
        rw [HER.out, HTS.out] at h
        exact (terms_in h).2
      have HQB2 := Lib.hid qb2
      have HQR2 := Lib.hid qr2
      have HBW := Lib.hid hbx
      have HPB7 := Lib.hid pb2
      have HPR7 := Lib.hid pr2
      have m0 : wr.cell? ⟨gb, a * 12, none⟩ = some (.string x0) := rb2 0 _ rfl
      have m1 : wr.cell? ⟨gb, a * 12 + 1, none⟩ = some (.string x1) := rb2 1 _ rfl
      have m2 : wr.cell? ⟨gb, a * 12 + 2, none⟩ = some (.string x2) := rb2 2 _ rfl
      have m3 : wr.cell? ⟨gb, a * 12 + 3, none⟩ = some (.string x3) := rb2 3 _ rfl
      have m4 : wr.cell? ⟨gb, a * 12 + 4, none⟩ = some (.string x4) := rb2 4 _ rfl
      have m5 : wr.cell? ⟨gb, a * 12 + 5, none⟩ = some (.bool xm) := rb2 5 _ rfl
      have m6 : wr.cell? ⟨gb, a * 12 + 6, none⟩ = some (.int .i64 xt) := rb2 6 _ rfl
      have m7 : wr.cell? ⟨gb, a * 12 + 7, none⟩ = some (.int .i64 xb) := rb2 7 _ rfl
      have m8 : wr.cell? ⟨gb, a * 12 + 8, none⟩ = some (.int .i64 xn) := rb2 8 _ rfl
      have m9 : wr.cell? ⟨gb, a * 12 + 9, none⟩ = some (.int .i64 xd) := rb2 9 _ rfl
      have m10 : wr.cell? ⟨gb, a * 12 + 10, none⟩ = some (.int .i64 xe) := rb2 10 _ rfl
      have m11 : wr.cell? ⟨gb, a * 12 + 11, none⟩ = some (.slice sb' ts.length cb) := rb2 11 _ rfl
      have n0 : wr.cell? ⟨gr, a * 12, none⟩ = some (.string x0) := rr2 0 _ rfl
      have n1 : wr.cell? ⟨gr, a * 12 + 1, none⟩ = some (.string x1) := rr2 1 _ rfl
      have n2 : wr.cell? ⟨gr, a * 12 + 2, none⟩ = some (.string x2) := rr2 2 _ rfl
      have n3 : wr.cell? ⟨gr, a * 12 + 3, none⟩ = some (.string x3) := rr2 3 _ rfl
      have n4 : wr.cell? ⟨gr, a * 12 + 4, none⟩ = some (.string x4) := rr2 4 _ rfl
      have n5 : wr.cell? ⟨gr, a * 12 + 5, none⟩ = some (.bool xm) := rr2 5 _ rfl
      have n6 : wr.cell? ⟨gr, a * 12 + 6, none⟩ = some (.int .i64 xt) := rr2 6 _ rfl
      have n7 : wr.cell? ⟨gr, a * 12 + 7, none⟩ = some (.int .i64 xb) := rr2 7 _ rfl
      have n8 : wr.cell? ⟨gr, a * 12 + 8, none⟩ = some (.int .i64 xn) := rr2 8 _ rfl
      have n9 : wr.cell? ⟨gr, a * 12 + 9, none⟩ = some (.int .i64 xd) := rr2 9 _ rfl
      have n10 : wr.cell? ⟨gr, a * 12 + 10, none⟩ = some (.int .i64 xe) := rr2 10 _ rfl
      have n11 : wr.cell? ⟨gr, a * 12 + 11, none⟩ = some (.slice sr' ts.length cr) := rr2 11 _ rfl
      clear ab qb2 qr2 hab hbx rb2 rr2 pb2 pr2 HZ1 HZ2 HZ3 HZ4 HZ5 hz1 hz3
      go_wp2_with fail
      go_region_held3 (fun w' => w'.cell? ⟨w2.heap.size, 0, none⟩ = some (.slice (some ⟨gb, 0, none⟩) 48 cb1) ∧ w'.cell? ⟨w3.heap.size, 0, none⟩ = some (.slice (some ⟨gr, 0, none⟩) 48 cr1) ∧ w'.cell? ⟨gb, a * 12, none⟩ = some (.string x0) ∧ w'.cell? ⟨gb, a * 12 + 1, none⟩ = some (.string x1) ∧ w'.cell? ⟨gb, a * 12 + 2, none⟩ = some (.string x2) ∧ w'.cell? ⟨gb, a * 12 + 3, none⟩ = some (.string x3) ∧ w'.cell? ⟨gb, a * 12 + 4, none⟩ = some (.string x4) ∧ w'.cell? ⟨gb, a * 12 + 5, none⟩ = some (.bool xm) ∧ w'.cell? ⟨gb, a * 12 + 6, none⟩ = some (.int .i64 xt) ∧ w'.cell? ⟨gb, a * 12 + 7, none⟩ = some (.int .i64 xb) ∧ w'.cell? ⟨gb, a * 12 + 8, none⟩ = some (.int .i64 xn) ∧ w'.cell? ⟨gb, a * 12 + 9, none⟩ = some (.int .i64 xd) ∧ w'.cell? ⟨gb, a * 12 + 10, none⟩ = some (.int .i64 xe) ∧ w'.cell? ⟨gb, a * 12 + 11, none⟩ = some (.slice sb' ts.length cb) ∧ w'.cell? ⟨gr, a * 12, none⟩ = some (.string x0) ∧ w'.cell? ⟨gr, a * 12 + 1, none⟩ = some (.string x1) ∧ w'.cell? ⟨gr, a * 12 + 2, none⟩ = some (.string x2) ∧ w'.cell? ⟨gr, a * 12 + 3, none⟩ = some (.string x3) ∧ w'.cell? ⟨gr, a * 12 + 4, none⟩ = some (.string x4) ∧ w'.cell? ⟨gr, a * 12 + 5, none⟩ = some (.bool xm) ∧ w'.cell? ⟨gr, a * 12 + 6, none⟩ = some (.int .i64 xt) ∧ w'.cell? ⟨gr, a * 12 + 7, none⟩ = some (.int .i64 xb) ∧ w'.cell? ⟨gr, a * 12 + 8, none⟩ = some (.int .i64 xn) ∧ w'.cell? ⟨gr, a * 12 + 9, none⟩ = some (.int .i64 xd) ∧ w'.cell? ⟨gr, a * 12 + 10, none⟩ = some (.int .i64 xe) ∧ w'.cell? ⟨gr, a * 12 + 11, none⟩ = some (.slice sr' ts.length cr))
        (first | go_keep | ((repeat' apply And.intro) <;> exact cell_under (w := wr.drew) ((World.cell?_drew wr _).trans (by assumption)) hbY))
        ((go_at_call 12; refine (same_yes x0 x1 x2 x3 x4 xm xt xb xn xd xe sb' cb sr' cr ts _ (by exact HQB2.out) (by exact HQR2.out) (by omega)).mono ?_; rintro e Y ⟨rfl, hbY⟩))
      have hby : Below wr.heap.size wr Y := ((Below.refl wr.heap.size wr).drew).trans hbY
      have HBY := Lib.hid (HBW.out.trans (hby.mono HBW.out.size))
      have yb1 := cell_under xb1 hby
      have yr1 := cell_under xr1 hby
      have HP8 := Lib.hid (range_under HPB7.out hby)
      have HR8 := Lib.hid (range_under HPR7.out hby)
      clear hbY hby xb0 xb1 xr0 xr1 d0 m0 m1 m2 m3 m4 m5 m6 m7 m8 m9 m10 m11 n0 n1 n2 n3 n4 n5 n6 n7 n8 n9 n10 n11
      have p0 : Y.cell? ⟨gb2, p * 6, none⟩ = some (.string z0) := HP8.out 0 _ rfl
      have p1 : Y.cell? ⟨gb2, p * 6 + 1, none⟩ = some (.string z1) := HP8.out 1 _ rfl
      have p2 : Y.cell? ⟨gb2, p * 6 + 2, none⟩ = some (.string z2) := HP8.out 2 _ rfl
      have p3 : Y.cell? ⟨gb2, p * 6 + 3, none⟩ = some (.string z3) := HP8.out 3 _ rfl
      have p4 : Y.cell? ⟨gb2, p * 6 + 4, none⟩ = some (.string z4) := HP8.out 4 _ rfl
      have p5 : Y.cell? ⟨gb2, p * 6 + 5, none⟩ = some (.int .i64 zt) := HP8.out 5 _ rfl
      have q0 : Y.cell? ⟨gr2, p * 6, none⟩ = some (.string z0) := HR8.out 0 _ rfl
      have q1 : Y.cell? ⟨gr2, p * 6 + 1, none⟩ = some (.string z1) := HR8.out 1 _ rfl
      have q2 : Y.cell? ⟨gr2, p * 6 + 2, none⟩ = some (.string z2) := HR8.out 2 _ rfl
      have q3 : Y.cell? ⟨gr2, p * 6 + 3, none⟩ = some (.string z3) := HR8.out 3 _ rfl
      have q4 : Y.cell? ⟨gr2, p * 6 + 4, none⟩ = some (.string z4) := HR8.out 4 _ rfl
      have q5 : Y.cell? ⟨gr2, p * 6 + 5, none⟩ = some (.int .i64 zt) := HR8.out 5 _ rfl
      have heq := fun W => eqF_same z0 z1 z2 z3 z4 zt W
      go_wp2_with fail
      go_quiet (fail)
      go_wp2_with fail
      go_ret
      exact ⟨rfl, below_drewQ HBY.out _⟩
end Go.Proofs.YtiinppicdhidhaaDoor
