/-
  atoms.Check: the walk.
-/
import Derived.Test.YtiinppicdhidhaaDoorSc
import Derived.Test.YtiinppicdhidhaaDoorQr
import Derived.Test.YtiinppicdhidhaaDoorSr
set_option linter.unusedVariables false
set_option linter.unusedSimpArgs false
namespace Go.Proofs.YtiinppicdhidhaaDoor
open Go.RowKit
open Go.Proofs
open Go.Shelf
attribute [local go_sem] Oper.semAt_some

theorem wideScope {n : Nat} {P : Program} {c : Code} {Q : Exit → Act → World → Prop} {a : Act} {w : World} (h : c.wpIn Fence.wide n P (Exit.noGoto Q) a w) : (Code.scope c).wpIn Fence.wide n P Q a w := wpIn_wide.2 (wp_scope_straight (wpIn_wide.1 h))
theorem wideLabel {n l : Nat} {P : Program} {Q : Exit → Act → World → Prop} {a : Act} {w : World} (h : Q .normal a w) : (Code.label l).wpIn Fence.wide n P Q a w := wpIn_wide.2 (wp_label h)
theorem cellNew3 {w : World} {cs : Array Value} {t : TypeId} {n j : Nat} {v : Value} (hn : n = w.heap.size) (h : cs[j]? = some v) : (w.alloc (.cells cs t)).cell? ⟨n, j, none⟩ = some v := by
  subst hn
  exact cellNew w cs t j v h
def prefsL (p : List PrefD) : List Value := p.flatMap prefL
/-- A table at a world, as plain data: atoms, the terms of each, prefixes. -/
structure TabIn (w : World) (a : Option Addr) (t : List AtomD) (T : Nat → List (Int × Int)) (a2 : Option Addr) (p : List PrefD) : Prop where
  atoms : t = [] ∨ ∃ b off, a = some ⟨b, off, none⟩ ∧ w.rangeAt b off (atomsL t) ∧ b < w.heap.size
  terms : ∀ i (h : i < t.length), t[i].tn = (T i).length ∧ TermsIn w t[i].ta (T i) ∧ (T i).length ≤ 10000
  nums : ∀ i (h : i < t.length), t[i].num ≤ 9223372036854775807 ∧ t[i].den ≤ 9223372036854775807
  texts : ∀ i j, (csA t i j).size ≤ maxLen
  prefs : p = [] ∨ ∃ b off, a2 = some ⟨b, off, none⟩ ∧ w.rangeAt b off (prefsL p) ∧ b < w.heap.size
  ptexts : ∀ i j, (csP p i j).size ≤ maxLen
theorem TabIn.below {w w' : World} {a : Option Addr} {t : List AtomD} {T : Nat → List (Int × Int)} {a2 : Option Addr} {p : List PrefD} (h : TabIn w a t T a2 p) (hb : Below w.heap.size w w') : TabIn w' a t T a2 p :=
  ⟨h.atoms.imp id fun ⟨b, off, h1, h2, h3⟩ => ⟨b, off, h1, range_below h2 hb h3, Nat.lt_of_lt_of_le h3 hb.size⟩, fun i hi => ⟨(h.terms i hi).1, terms_below (h.terms i hi).2.1 hb, (h.terms i hi).2.2⟩, h.nums, h.texts,
   h.prefs.imp id fun ⟨b, off, h1, h2, h3⟩ => ⟨b, off, h1, range_below h2 hb h3, Nat.lt_of_lt_of_le h3 hb.size⟩, h.ptexts⟩
/-- What holds ahead of round k of the range over the atoms. -/
def CkI (t : List AtomD) (T : Nat → List (Int × Int)) (w V : World) (k : Nat) (X : World) : Prop :=
  (X.cell? ⟨w.heap.size + 1, 0, none⟩ = some (.int .i64 (-1)) ∧ X.frozen? ⟨w.heap.size + 1, 0, none⟩ = false) ∧ SeenAt X (w.heap.size + 2) (5 * k) (keysOf (csA t) k) ∧ (∀ i, i < k → okA t T i = true) ∧
    X.heap[w.heap.size]? = V.heap[w.heap.size]? ∧ X.heap[w.heap.size + 3]? = V.heap[w.heap.size + 3]? ∧ Below w.heap.size w X ∧ w.heap.size + 4 ≤ X.heap.size
/-- .. and where a row is not right. -/
def CkX (t : List AtomD) (T : Nat → List (Int × Int)) (w : World) (k : Nat) (X : World) : Prop :=
  (∀ i, i < k → okA t T i = true) ∧ okA t T k = false ∧ k < t.length ∧ X.cell? ⟨w.heap.size + 1, 0, none⟩ = some (.int .i64 (k : Int)) ∧ Below w.heap.size w X ∧ w.heap.size + 4 ≤ X.heap.size
theorem blockKept {B k : Nat} {W W' : World} {row : Option Nat} (hg : W.grownBy W' row) (hr : ∀ r, row = some r → B ≤ r ∧ ∃ o : Obj, W.heap[r]? = some o ∧ o.isCells = false) (hk : k < W.heap.size) (hB : k < B) : W'.heap[k]? = W.heap[k]? :=
  hg.block k hk (fun e => by have := (hr k e.symm).1; omega)
theorem CkI.own {t : List AtomD} {T : Nat → List (Int × Int)} {w V : World} {B k : Nat} (hB : w.heap.size + 4 ≤ B) {W W' : World} {row : Option Nat} (h : CkI t T w V k W) (hg : W.grownBy W' row) (hr : ∀ r, row = some r → B ≤ r ∧ ∃ o : Obj, W.heap[r]? = some o ∧ o.isCells = false) : CkI t T w V k W' := by
  obtain ⟨⟨h1, h2⟩, h3, h4, h5, h6, h7, h8⟩ := h
  have q : ∀ k, k < w.heap.size + 4 → W'.heap[k]? = W.heap[k]? := fun k hk => blockKept hg hr (by omega) (by omega)
  refine ⟨⟨(World.cell?_of_block (w := W) (q (w.heap.size + 1) (by omega))).trans h1, (World.frozen?_of_block (w := W) (q (w.heap.size + 1) (by omega))).trans h2⟩, h3.heap (q _ (by omega)), h4, (q _ (by omega)).trans h5, (q _ (by omega)).trans h6, h7.grown hg h7.size (fun r e => by have := (hr r e).1; omega), Nat.le_trans h8 hg.size⟩
theorem CkX.own {t : List AtomD} {T : Nat → List (Int × Int)} {w : World} {B k : Nat} (hB : w.heap.size + 4 ≤ B) {W W' : World} {row : Option Nat} (h : CkX t T w k W) (hg : W.grownBy W' row) (hr : ∀ r, row = some r → B ≤ r ∧ ∃ o : Obj, W.heap[r]? = some o ∧ o.isCells = false) : CkX t T w k W' := by
  obtain ⟨h1, h2, h3, h4, h5, h6⟩ := h
  exact ⟨h1, h2, h3, (World.cell?_of_block (w := W) (blockKept hg hr (by show w.heap.size + 1 < _; omega) (by show w.heap.size + 1 < _; omega))).trans h4, h5.grown hg h5.size (fun r e => by have := (hr r e).1; omega), Nat.le_trans h6 hg.size⟩
theorem CkX.answer {t : List AtomD} {T : Nat → List (Int × Int)} {p : List PrefD} {w X : World} {k : Nat} (h : CkX t T w k X) (h1 : ¬ 100 < t.length) (h2 : ¬ 30 < p.length) : checkS t T p = k := by
  obtain ⟨a, b, c, _⟩ := h
  have : (List.range t.length).find? (fun i => !okA t T i) = some k := by
    rw [List.find?_eq_some_iff_getElem]
    refine ⟨by simp [b], k, by simpa using c, by simp, fun j hj => by simp [a j hj]⟩
  rw [checkS, if_neg (by omega), this]
theorem SeenAt.noCells {w : World} {b n : Nat} {L : List (ByteArray × ByteArray)} (h : SeenAt w b n L) {o : Obj} (ho : w.heap[b]? = some o) : o.isCells = false := by
  obtain ⟨D, ⟨es, clock, hb, _⟩, _⟩ := h
  rw [hb] at ho
  cases ho
  rfl
theorem take_keeps {X X1 : World} {b n B : Nat} {L : List (ByteArray × ByteArray)} (hS : SeenAt X b n L) (hg : X.grownBy X1 (some b)) (hbB : b < B) (bx : List Nat) : KeepsFrom B X X1 ∧ KeepC bx X X1 :=
  ⟨KeepsFrom.of_grownBy hg (fun j e => by cases e; omega), hg.size, fun k o _ ho hc => (hg.block k (Array.getElem?_eq_some_iff.1 ho).1 (fun e => by cases e; rw [hS.noCells ho] at hc; cases hc)).trans ho⟩
theorem store_keeps {X : World} {Wb B : Nat} (hW : Wb < B) (v : Value) : KeepsFrom B X (X.setCell ⟨Wb, 0, none⟩ v) ∧ KeepC [Wb] X (X.setCell ⟨Wb, 0, none⟩ v) :=
  ⟨KeepsFrom.of_grownBy (grownBy_setCell X ⟨Wb, 0, none⟩ v) (fun j e => by cases e; exact hW), (grownBy_setCell X ⟨Wb, 0, none⟩ v).size, fun k o hk ho _ => (Below.heap_setCell X ⟨Wb, 0, none⟩ v k (by intro e; exact hk (by simp [e]))).trans ho⟩
theorem pref_range {w : World} {g o : Nat} {p : List PrefD} (h : w.rangeAt g o (prefsL p)) (k : Nat) (hk : k < p.length) : w.rangeAt g (o + k * 6) (prefL p[k]) := by
  intro j v hj
  have h2 := h (k * 6 + j) v
  rw [← Nat.add_assoc] at h2
  apply h2
  have hd := flat_take prefL 6 p (fun x _ => rfl) k hk
  rw [← hd, List.getElem?_take] at hj
  split at hj
  · rwa [List.getElem?_drop] at hj
  · cases hj
theorem size_Pref : (Tryd.prog.info? 35).map (·.size) = some 6 := by kernel_rfl
theorem check_pref {t : List AtomD} {T : Nat → List (Int × Int)} {p : List PrefD} {k : Nat} (h1 : ¬ 100 < t.length) (h2 : ¬ 30 < p.length) (ha : ∀ i, i < t.length → okA t T i = true) (hp : ∀ i, i < k → okP p i = true) (hk : k < p.length) (hb : okP p k = false) :
    checkS t T p = (t.length : Int) + k := by
  have e1 : (List.range t.length).find? (fun i => !okA t T i) = none := List.find?_eq_none.2 (fun i hi => by simp [ha i (by simpa using hi)])
  have e2 : (List.range p.length).find? (fun i => !okP p i) = some k := by
    rw [List.find?_eq_some_iff_getElem]
    exact ⟨by simp [hb], k, by simpa using hk, by simp, fun j hj => by simp [hp j hj]⟩
  rw [checkS, if_neg (by omega), e1]
  simp only [e2]
theorem check_all {t : List AtomD} {T : Nat → List (Int × Int)} {p : List PrefD} (h1 : ¬ 100 < t.length) (h2 : ¬ 30 < p.length) (ha : ∀ i, i < t.length → okA t T i = true) (hp : ∀ i, i < p.length → okP p i = true) : checkS t T p = -1 := by
  have e1 : (List.range t.length).find? (fun i => !okA t T i) = none := List.find?_eq_none.2 (fun i hi => by simp [ha i (by simpa using hi)])
  have e2 : (List.range p.length).find? (fun i => !okP p i) = none := List.find?_eq_none.2 (fun i hi => by simp [hp i (by simpa using hi)])
  rw [checkS, if_neg (by omega), e1]
  simp only [e2]
set_option maxRecDepth 100000 in
set_option maxHeartbeats 4000000 in
theorem check_in (a : Option Addr) (c : Nat) (t : List AtomD) (T : Nat → List (Int × Int)) (a2 : Option Addr) (c2 : Nat) (p : List PrefD) (w : World) (hT : TabIn w a t T a2 p) (hN : NotesAt w) (hF : TensAt w) (hl : t.length ≤ 10000) (hp : p.length ≤ 10000) :
    CallsIn Fence.wide 30 Tryd.prog 14 #[.agg #[.slice a t.length c, .slice a2 p.length c2]] w fun e w' => e = .returned (.int .i64 (checkS t T p)) ∧ Below w.heap.size w w' := by
  have HT := Lib.hid hT
  have HN := Lib.hid hN
  have HF := Lib.hid hF
  have hmm := @run_makeMap Tryd.prog
  clear hT hN hF
  refine callsIn_of_wp_marks Tryd.func14 rfl trivial ?_ rfl
  simp only [Tryd.ntmps14, List.size_toArray, List.length_cons, List.length_nil, Nat.reduceAdd, Nat.reduceSub, Array.replicate_succ, Array.replicate_zero, List.push_toArray, List.append_toArray, List.nil_append, List.cons_append]
  by_cases h1 : 100 < t.length
  · have d1 : decide (100 < (t.length : Int)) = true := by simp; omega
    gi_wp2
    refine wideScope ?_
    gi_wp2
    rw [Exit.noGoto_ret]
    exact ⟨_, results_tmp rfl _ _ _, by rw [checkS, if_pos (.inl h1)]; rfl, (Below.refl _ _).alloc (Nat.le_refl _) _⟩
  have d1 : decide (100 < (t.length : Int)) = false := by simp; omega
  by_cases h2 : 30 < p.length
  · have d2 : decide (30 < (p.length : Int)) = true := by simp; omega
    gi_wp2
    refine wideScope ?_
    gi_wp2
    rw [Exit.noGoto_ret]
    exact ⟨_, results_tmp rfl _ _ _, by rw [checkS, if_pos (.inr h2)]; rfl, (Below.refl _ _).alloc (Nat.le_refl _) _⟩
  have d2 : decide (30 < (p.length : Int)) = false := by simp; omega
  gi_wp2
  refine wideScope ?_
  gi_wp2
  refine wideLabel ?_
  gi_wp2
  refine ⟨trivial, ?_⟩
  refine (each_in Fence.wide 29 trivial rfl a t.length c a2 p.length c2 _).mono ?_
  rintro e w1 ⟨rfl, rfl⟩
  gi_wp2
  obtain ⟨V, hV⟩ : ∃ V, ((((w.alloc (.cells #[.slice a t.length c, .slice a2 p.length c2] 27)).alloc (.cells #[.int .i64 (-1)] 3)).alloc (.map #[] 0)).alloc (.cells #[.map (some (w.heap.size + 1 + 1))] 60)).alloc (.cells #[.slice a t.length c, .slice a2 p.length c2] 27) = V := ⟨_, rfl⟩
  have hVs : V.heap.size = w.heap.size + 5 := by rw [← hV]; simp
  have HBV : Hid (Below w.heap.size w V) := by rw [← hV]; exact (((((Below.refl _ _).alloc (Nat.le_refl _) _).alloc (by simp) _).alloc (by simp; omega) _).alloc (by simp; omega) _).alloc (by simp; omega) _
  have hcE : V.cell? ⟨w.heap.size + 1 + 1 + 1 + 1, 0, none⟩ = some (.slice a t.length c) := by rw [← hV]; exact cellNew3 (by simp) rfl
  have hcX : V.cell? ⟨w.heap.size + 3, 0, none⟩ = some (.map (some (w.heap.size + 1 + 1))) := by rw [← hV]; exact cellAlloc _ (cellNew3 (by simp) rfl)
  have hcT : V.cell? ⟨w.heap.size, 0, none⟩ = some (.slice a t.length c) := by rw [← hV]; exact cellAlloc _ (cellAlloc _ (cellAlloc _ (cellAlloc _ (cellNew3 (by simp) rfl))))
  have hcT1 : V.cell? ⟨w.heap.size, 1, none⟩ = some (.slice a2 p.length c2) := by rw [← hV]; exact cellAlloc _ (cellAlloc _ (cellAlloc _ (cellAlloc _ (cellNew3 (by simp) rfl))))
  have HCV : Hid (CkI t T w V 0 V) := by
    refine ⟨⟨?_, ?_⟩, ?_, fun i hi => by omega, rfl, rfl, HBV.out, by omega⟩
    · rw [← hV]; exact cellAlloc _ (cellAlloc _ (cellAlloc _ (cellNew3 (by simp) rfl)))
    · have h5 := (Boxed.new (w.alloc (.cells #[.slice a t.length c, .slice a2 p.length c2] 27)) 3 (.int .i64 (-1))).frozen
      rw [World.size_alloc] at h5
      have h6 : Below ((w.alloc (.cells #[.slice a t.length c, .slice a2 p.length c2] 27)).alloc (.cells #[.int .i64 (-1)] 3)).heap.size ((w.alloc (.cells #[.slice a t.length c, .slice a2 p.length c2] 27)).alloc (.cells #[.int .i64 (-1)] 3)) V := by rw [← hV]; exact (((Below.refl _ _).alloc (Nat.le_refl _) _).alloc (by simp) _).alloc (by simp <;> omega) _
      exact (h6.frozen (p := ⟨w.heap.size + 1, 0, none⟩) (by simp)).trans h5
    · have h5 := SeenAt.made ((w.alloc (.cells #[.slice a t.length c, .slice a2 p.length c2] 27)).alloc (.cells #[.int .i64 (-1)] 3))
      rw [World.size_alloc, World.size_alloc] at h5
      rw [← hV]
      have h6 := h5.heap (Below.heap_alloc _ (.cells #[.map (some (w.heap.size + 1 + 1))] 60) _ h5.lt)
      exact h6.heap (Below.heap_alloc _ _ _ h6.lt)
  have HCE := Lib.hid hcE
  have HCX := Lib.hid hcX
  have HCT := Lib.hid hcT
  have HCT1 := Lib.hid hcT1
  rw [hV]
  clear hV hcE hcX hcT hcT1
  refine range_ok (F := Fence.wide) rfl (by omega) (gf := 27) (lb := #[.pointer (some ⟨w.heap.size + 1 + 1 + 1 + 1, 0, none⟩)]) rfl trivial (enters_of Tryd.func27 (by kernel_rfl) rfl)
    ((each_seq Fence.wide 29 trivial rfl (by omega) (w.heap.size + 1 + 1 + 1 + 1) [w.heap.size + 1] a c t hl V HCE.out (HT.out.atoms.imp id (fun ⟨b, off, h1, h2, h3⟩ => ⟨b, off, h1, range_below h2 HBV.out h3, by simp <;> omega, by omega⟩))).kp (Kp' := fun A C => KeepC [w.heap.size + 1] A C ∧ KeepsFrom (V.heap.size + 2) A C) (fun _ _ h => h.1))
    (fun h k => ⟨h.1.trans k.1, h.2.trans k.2⟩)
    (fun X o o' h hc => ⟨KeepC.putObj o' h hc, KeepsFrom.of_grownBy (grownBy_putObj' X _ o') (fun j e => by cases e; omega)⟩)
    (Below.refl _ _) (fun _ => rfl)
    (fun pre X => CkI t T w V pre.length X)
    (fun c pre X => c = .exit 0 ∧ ∃ k, CkX t T w k X)
    (fun s A C row hs hg hr => CkI.own (by omega) hs hg hr)
    (fun c s A C row hs hg hr => ⟨hs.1, hs.2.choose, CkX.own (B := V.heap.size) (by omega) hs.2.choose_spec hg hr⟩)
    HCV.out
    (fun x a' X => ∃ bb, (w.heap.size + 4 ≤ bb ∧ ∀ (j : Nat) (v : Value), (atomL x.2)[j]? = some v → X.cell? ⟨bb, j, none⟩ = some v) ∧ a' = { tmps := #[.agg #[.slice a t.length c, .slice a2 p.length c2], .pointer (some ⟨w.heap.size, 0, none⟩), .int .i64 0, .int .i64 (t.length : Int), .pointer (some ⟨w.heap.size + 1, 0, none⟩), .pointer (some ⟨w.heap.size + 1 + 1 + 1, 0, none⟩), .int .i64 (x.1 : Int), .pointer (some ⟨bb, 0, none⟩), undef, undef, .pointer (some ⟨w.heap.size, 0, none⟩), .slice a t.length c, .int .i64 (t.length : Int), .int .i64 (t.length : Int), .bool false, .bool false, .pointer (some ⟨w.heap.size, 1, none⟩), .slice a2 p.length c2, .int .i64 (p.length : Int), .bool false, .bool false, undef, undef, undef, undef, undef, .map (some (w.heap.size + 1 + 1)), .agg #[.slice a t.length c, .slice a2 p.length c2], .func (.func 27) #[] #[.pointer (some ⟨w.heap.size + 1 + 1 + 1 + 1, 0, none⟩)], .int .i64 (x.1 : Int), .agg (atomL x.2).toArray, undef, undef, undef, undef, undef, undef, undef, undef, undef, undef, undef, undef, undef, undef, undef, undef, undef, undef, undef, undef, undef, undef, undef, undef, undef, undef, undef, undef, undef, undef, undef, undef, undef, undef, undef, undef, undef, undef, undef, undef, undef, undef, undef], defers := [] })
    (fun x a' s A C row ⟨bb, ⟨h0, h1⟩, h2⟩ hg hr => ⟨bb, ⟨h0, fun j v hj => cell_kept (h1 j v hj) hg (fun r e => (hr r e).2)⟩, h2⟩) ?assign ?body ?done ?stop
  case assign =>
    rintro l2 pre ⟨i, ⟨x0, x1, x2, x3, x4, xm, xt, xb, xn, xd, xe, xa, xl, xc⟩⟩ X K hj hK
    simp only [encE, atomL] at hK ⊢
    have HJ := Lib.hid hj
    have HXW : Hid (w.heap.size + 4 ≤ X.heap.size) := hj.2.2.2.2.2.2
    clear hj
    gi_wp2
    exact hK _ _ ((KeepsOthers.alloc _ _).from _) ⟨(KeepC.refl _ _).alloc _, (KeepsOthers.alloc _ _).from _⟩ (CkI.own (B := w.heap.size + 4) (by omega) HJ.out (World.grownBy_alloc _ _ none) (fun r e => by cases e)) ⟨X.heap.size, ⟨HXW.out, fun j v hj => cellNew X _ _ j _ (by rw [← hj]; rcases j with _ | _ | _ | _ | _ | _ | _ | _ | _ | _ | _ | _ | j <;> rfl)⟩, rfl⟩
  case body =>
    rintro l2 pre x a' X hj ⟨bb, ⟨hbb, hcs⟩, rfl⟩ ⟨k, hk, rfl, rfl⟩
    have hlen : (firstA t k).length = k := by simp [firstA]
    have HP : Hid ((firstA t k ++ [(k, t[k]?.getD default)]).length = k + 1) := by show _ = _; rw [List.length_append, hlen]; rfl
    rw [hlen] at hj
    have hgt : t[k]?.getD default = t[k] := by rw [List.getElem?_eq_getElem hk, Option.getD_some]
    have HJ := Lib.hid hj
    have HBB := Lib.hid hbb
    have HK := Lib.hid hk
    have HCS := Lib.hid hcs
    have hx5 : X.cell? ⟨w.heap.size + 1 + 1 + 1, 0, none⟩ = some (.map (some (w.heap.size + 1 + 1))) := (World.cell?_of_block (w := V) hj.2.2.2.2.1).trans HCX.out
    have hxt0 : X.cell? ⟨w.heap.size, 0, none⟩ = some (.slice a t.length c) := (World.cell?_of_block (w := V) hj.2.2.2.1).trans HCT.out
    have hxt1 : X.cell? ⟨w.heap.size, 1, none⟩ = some (.slice a2 p.length c2) := (World.cell?_of_block (w := V) hj.2.2.2.1).trans HCT1.out
    have HR5 : Hid (X.rangeAt bb 0 [.string (csA t k 0), .string (csA t k 1), .string (csA t k 2), .string (csA t k 3), .string (csA t k 4)]) := by
      intro j v hj2
      rw [Nat.zero_add]
      refine hcs j v ?_
      rw [← hj2]
      rcases j with _ | _ | _ | _ | _ | j
      · rfl
      · rfl
      · rfl
      · rfl
      · rfl
      · simp at hj2
    clear hj hbb hcs hlen hgt
    generalize t[k]?.getD default = y at HP ⊢
    gi_wp2_with (first | (refine wpListIn_load_mid rfl 30 _ rfl bb 0 rfl _ _ HR5.out Tryd.underlying30 rfl (by kernel_rfl) ?_) | fail)
    refine ⟨trivial, ?_⟩
    have hnX : NotesAt X := fun i hi => cell_under (HN.out i hi) HJ.out.2.2.2.2.2.1
    have hN1 : 1 < w.heap.size := World.block_lt_of_cell? w ⟨1, 0, none⟩ (HN.out 0 (by omega))
    refine (CallsIn.inRound l2 (callsIn_wide.2 (take_any (w.heap.size + 1 + 1) (5 * k) (keysOf (csA t) k) (csA t k) X HJ.out.2.1 hnX (HT.out.texts k) (by omega) (by omega)))).mono ?_
    rintro e X1 ⟨rfl, hs1, hg1⟩
    have hx5' : X1.cell? ⟨w.heap.size + 1 + 1 + 1, 0, none⟩ = some (.map (some (w.heap.size + 1 + 1))) := hg1.cell hx5 (by simp)
    have hxt0' : X1.cell? ⟨w.heap.size, 0, none⟩ = some (.slice a t.length c) := hg1.cell hxt0 (by simp; omega)
    have hxt1' : X1.cell? ⟨w.heap.size, 1, none⟩ = some (.slice a2 p.length c2) := hg1.cell hxt1 (by simp; omega)
    have hw' : X1.cell? ⟨w.heap.size + 1, 0, none⟩ = some (.int .i64 (-1)) := hg1.cell HJ.out.1.1 (by simp)
    have hf' : X1.frozen? ⟨w.heap.size + 1, 0, none⟩ = false := (World.frozen?_of_block (w := X) (hg1.block (w.heap.size + 1) (by have := HJ.out.2.2.2.2.2.2; omega) (by simp))).trans HJ.out.1.2
    have HS1 := Lib.hid hs1
    have HG1 := Lib.hid hg1
    have HNX := Lib.hid hnX
    clear hs1 hg1 hnX hx5 hxt0 hxt1
    obtain ⟨o1, ho1⟩ : ∃ o, (takeK (csA t k) (keysOf (csA t) k) 5).1 = o := ⟨_, rfl⟩
    rw [ho1]
    have HO1 := Lib.hid ho1
    clear ho1
    cases o1
    · gi_wp2
      refine ⟨trivial, ?_⟩
      gi_wp2
      have hk4 := HJ.out.2.2.2.2.2.2
      obtain ⟨ka, kb⟩ := take_keeps (B := V.heap.size) HJ.out.2.1 HG1.out (by omega) [w.heap.size + 1]
      obtain ⟨kc, kd⟩ := store_keeps (X := X1) (Wb := w.heap.size + 1) (B := V.heap.size) (by omega) (.int .i64 (k : Int))
      have hbel : Below w.heap.size w X1 := HJ.out.2.2.2.2.2.1.grown HG1.out (by omega) (fun r e => by cases e; omega)
      exact ⟨ka.trans kc, ⟨kb.trans kd, keepsMono (ka.trans kc) (by omega)⟩, rfl, k, HJ.out.2.2.1, by rw [okA, HO1.out]; rfl, hk, World.cell?_setCell_same' _ _ _ (by rw [hw']; rfl), hbel.setCell (by show w.heap.size ≤ w.heap.size + 1; omega) _, Nat.le_trans hk4 (Nat.le_trans HG1.out.size kc.size)⟩
    · have HRT : Hid (X1.rangeAt w.heap.size 0 [.slice a t.length c, .slice a2 p.length c2]) := by
        intro j v hj2
        rcases j with _ | _ | j
        · cases hj2; exact hxt0'
        · cases hj2; exact hxt1'
        · simp at hj2
      obtain ⟨b, off, hab, hrX, hbX⟩ : ∃ b off, a = some ⟨b, off, none⟩ ∧ w.rangeAt b off (atomsL t) ∧ b < w.heap.size := by
        rcases HT.out.atoms with h | h
        · rw [h] at hk; simp at hk
        · exact h
      have hbel : Below w.heap.size w X1 := HJ.out.2.2.2.2.2.1.grown HG1.out (by have := HJ.out.2.2.2.2.2.2; omega) (fun r e => by cases e; omega)
      have HBL := Lib.hid hbel
      have HRX := Lib.hid hrX
      clear hrX hbel
      subst hab
      gi_wp2_with (first | (refine wpListIn_load_mid rfl 27 _ rfl w.heap.size 0 rfl _ _ HRT.out Tryd.underlying27 rfl (by kernel_rfl) ?_) | fail)
      refine ⟨trivial, ?_⟩
      refine (CallsIn.inRound l2 (callsIn_wide.2 (worth_any t (T k) k b off c a2 p.length c2 X1 hk hl (range_below HRX.out HBL.out hbX) (tens_below HF.out HBL.out) (HT.out.terms k hk).1 (terms_below (HT.out.terms k hk).2.1 HBL.out) (HT.out.terms k hk).2.2 (HT.out.nums k hk).1 (HT.out.nums k hk).2))).mono ?_
      rintro e X2 ⟨rfl, hb2⟩
      obtain ⟨o2, ho2⟩ : ∃ o, worthS t (T k) k = o := ⟨_, rfl⟩
      rw [ho2]
      have HO2 := Lib.hid ho2
      clear ho2
      have hw2 : X2.cell? ⟨w.heap.size + 1, 0, none⟩ = some (.int .i64 (-1)) := cell_under hw' hb2
      have hs2 : X1.heap.size ≤ X2.heap.size := hb2.size
      have hf2 : X2.frozen? ⟨w.heap.size + 1, 0, none⟩ = false := (hb2.frozen (p := ⟨w.heap.size + 1, 0, none⟩) (by have := HJ.out.2.2.2.2.2.2; have := HG1.out.size; show w.heap.size + 1 < _; omega)).trans hf'
      have HB2 := Lib.hid hb2
      clear hb2
      have hk4 := HJ.out.2.2.2.2.2.2
      have hs1' := HG1.out.size
      obtain ⟨ka, kb⟩ := take_keeps (B := V.heap.size) HJ.out.2.1 HG1.out (by omega) [w.heap.size + 1]
      have km : KeepsFrom V.heap.size X1 X2 := KeepsFrom.of_grownBy (grownBy_below (B := 0) HB2.out none) (fun j e => by cases e)
      have kn : KeepC [w.heap.size + 1] X1 X2 := ⟨hs2, fun k o _ ho _ => (HB2.out.block k (Array.getElem?_eq_some_iff.1 ho).1).trans ho⟩
      have hbel2 : Below w.heap.size w X2 := HBL.out.trans (HB2.out.mono (by omega))
      cases o2
      · gi_wp2
        obtain ⟨kc, kd⟩ := store_keeps (X := X2) (Wb := w.heap.size + 1) (B := V.heap.size) (by omega) (.int .i64 (k : Int))
        have ke := (ka.trans km).trans kc
        exact ⟨ke, ⟨(kb.trans kn).trans kd, keepsMono ke (by omega)⟩, rfl, k, HJ.out.2.2.1, by rw [okA, HO1.out, HO2.out]; rfl, hk, World.cell?_setCell_same' _ _ _ (by rw [hw2]; rfl), hbel2.setCell (by show w.heap.size ≤ w.heap.size + 1; omega) _, Nat.le_trans hk4 (Nat.le_trans hs1' (Nat.le_trans hs2 kc.size))⟩
      · gi_wp2
        have ke := ka.trans km
        have hblk : ∀ j, j < w.heap.size + 4 → j ≠ w.heap.size + 2 → X2.heap[j]? = X.heap[j]? := fun j hj hne => (HB2.out.block j (by omega)).trans (HG1.out.block j (by omega) (by intro e; cases e; omega))
        refine ⟨ke, ⟨kb.trans kn, keepsMono ke (by omega)⟩, ?_⟩
        show CkI t T w V _ X2
        rw [HP.out]
        refine ⟨⟨hw2, hf2⟩, (HS1.out.below HS1.out.lt HB2.out).mono (by omega), fun i hi => ?_, (hblk _ (by omega) (by omega)).trans HJ.out.2.2.2.1, (hblk _ (by omega) (by omega)).trans HJ.out.2.2.2.2.1, hbel2, by omega⟩
        by_cases hik : i < k
        · exact HJ.out.2.2.1 i hik
        · have : i = k := by omega
          subst this
          rw [okA, HO1.out, HO2.out]
          rfl
  case done =>
    rintro D xs X hD rfl hx hk1
    have hlen : (firstA t t.length).length = t.length := by simp [firstA]
    rw [hlen] at hx
    have HX := Lib.hid hx
    have HD1 := Lib.hid hk1
    have hw1 := hx.1.1
    have hx5 : X.cell? ⟨w.heap.size + 1 + 1 + 1, 0, none⟩ = some (.map (some (w.heap.size + 1 + 1))) := (World.cell?_of_block (w := V) hx.2.2.2.2.1).trans HCX.out
    have hxt1 : X.cell? ⟨w.heap.size, 1, none⟩ = some (.slice a2 p.length c2) := (World.cell?_of_block (w := V) hx.2.2.2.1).trans HCT1.out
    clear hx hk1
    obtain ⟨X1, hcl, hs1, hg1⟩ := SeenAt.clear (b := w.heap.size + 1 + 1) HX.out.2.1 0
    have HS1 := Lib.hid hs1
    have HG1 := Lib.hid hg1
    have hxt1' : X1.cell? ⟨w.heap.size, 1, none⟩ = some (.slice a2 p.length c2) := hg1.cell hxt1 (by simp; omega)
    have hx5' : X1.cell? ⟨w.heap.size + 1 + 1 + 1, 0, none⟩ = some (.map (some (w.heap.size + 1 + 1))) := hg1.cell hx5 (by simp)
    clear hs1 hg1
    gi_wp2
    gi_loopw [50] (fun i wr => ∃ k : Nat, k ≤ p.length ∧ i = .int .i64 (k : Int) ∧ SeenAt wr (w.heap.size + 1 + 1) (5 * k) (keysOf (csP p) k) ∧ (∀ i, i < k → okP p i = true) ∧ X1.grownBy wr (some (w.heap.size + 1 + 1)))
      (fun i _ => p.length - (intOf i).toNat)
    case atStart => exact ⟨0, by omega, rfl, HS1.out, fun i hi => by omega, rfl, rfl, rfl, Nat.le_refl _, fun _ _ _ => rfl⟩
    case round =>
      obtain ⟨k, hk, rfl, hs, hok, hg⟩ := hrel
      have HS := Lib.hid hs
      have HOK := Lib.hid hok
      have HG := Lib.hid hg
      clear hs hok hg
      by_cases hlt : k < p.length
      · obtain ⟨g, o, ha2, hrP, hgP⟩ : ∃ g o, a2 = some ⟨g, o, none⟩ ∧ w.rangeAt g o (prefsL p) ∧ g < w.heap.size := by
          rcases HT.out.prefs with h | h
          · rw [h] at hlt; simp at hlt
          · exact h
        subst ha2
        have hx6 := HX.out.2.2.2.2.2.2
        have hz1 := HG1.out.size
        have HBW : Hid (Below w.heap.size w wr) := (HX.out.2.2.2.2.2.1.grown HG1.out (by omega) (fun r e => by cases e; omega)).grown HG.out (by omega) (fun r e => by cases e; omega)
        have HPV := Lib.hid (range_below (pref_range hrP k hlt) HBW.out hgP)
        have hx5w : wr.cell? ⟨w.heap.size + 1 + 1 + 1, 0, none⟩ = some (.map (some (w.heap.size + 1 + 1))) := HG.out.cell hx5' (by simp)
        obtain ⟨y, hy⟩ : ∃ y, p[k] = y := ⟨_, rfl⟩
        rw [hy] at HPV
        obtain ⟨q0, q1, q2, q3, q4, qt⟩ := y
        have hcs : csP p k = codesP ⟨q0, q1, q2, q3, q4, qt⟩ := by rw [csP, List.getElem?_eq_getElem hlt, hy]; rfl
        have HCSP := Lib.hid hcs
        have HTEN : Hid ((p[k]?.getD default).ten = qt) := by show _ = _; rw [List.getElem?_eq_getElem hlt, hy]; rfl
        have HPV : Hid (wr.rangeAt g (o + k * 6) [.string q0, .string q1, .string q2, .string q3, .string q4, .int .i64 qt]) := HPV.out
        have hx5a := cellAlloc (.cells #[.string q0, .string q1, .string q2, .string q3, .string q4, .int .i64 qt] 35) hx5w
        clear hcs hy
        gi_wp2_with (first | (refine wpListIn_load_mid rfl 35 _ rfl g _ rfl _ _ HPV.out Tryd.underlying35 rfl size_Pref ?_) | fail)
        refine ⟨trivial, ?_⟩
        have hN1 : 1 < w.heap.size := World.block_lt_of_cell? w ⟨1, 0, none⟩ (HN.out 0 (by omega))
        have hnW : NotesAt (wr.alloc (.cells #[.string q0, .string q1, .string q2, .string q3, .string q4, .int .i64 qt] 35)) := fun i hi => cellAlloc _ (cell_under (HN.out i hi) HBW.out)
        have hsW := HS.out.heap (Below.heap_alloc wr (.cells #[.string q0, .string q1, .string q2, .string q3, .string q4, .int .i64 qt] 35) _ HS.out.lt)
        have htx := HT.out.ptexts k
        rw [HCSP.out] at htx
        refine (callsIn_wide.2 (take_any (w.heap.size + 1 + 1) (5 * k) (keysOf (csP p) k) (codesP ⟨q0, q1, q2, q3, q4, qt⟩) _ hsW hnW htx (by omega) (by omega))).mono ?_
        rintro e X2 ⟨rfl, hs2, hg2⟩
        obtain ⟨o1, ho1⟩ : ∃ o, (takeK (codesP ⟨q0, q1, q2, q3, q4, qt⟩) (keysOf (csP p) k) 5).1 = o := ⟨_, rfl⟩
        rw [ho1]
        have HO1 := Lib.hid ho1
        have hq5 : X2.cell? ⟨wr.heap.size, 5, none⟩ = some (.int .i64 qt) := hg2.cell (cellNew wr _ _ 5 _ rfl) (by have := HS.out.lt; simp; omega)
        have HS2 := Lib.hid hs2
        have HG2 := Lib.hid hg2
        clear ho1 hs2 hg2 hsW hnW
        have hDX := (Array.getElem?_eq_some_iff.1 HD1.out).1
        have hz2 := HG.out.size
        have hz3 : wr.heap.size ≤ X2.heap.size := by have := HG2.out.size; simp at this; omega
        have hD2 : X2.heap[D]? = some (.deferred (some [])) := (HG2.out.block D (by simp; omega) (by intro e; cases e; omega)).trans ((Below.heap_alloc wr _ D (by omega)).trans ((HG.out.block D (by omega) (by intro e; cases e; omega)).trans ((HG1.out.block D hDX (by intro e; cases e; omega)).trans HD1.out)))
        have HBE : Hid (Below w.heap.size w X2) := (HBW.out.alloc (by omega) _).grown HG2.out (by simp; omega) (fun r e => by cases e; omega)
        cases o1
        · have hbad : Hid (okP p k = false) := by show _ = _; rw [okP, HCSP.out, HO1.out]; rfl
          gi_wp2
          rw [Exit.noGoto_ret]
          refine ⟨by simp, .inl ⟨_, _, rfl, run_takeDeferred hD2, ?_⟩⟩
          exact ⟨_, results_tmp rfl _ _ _, by rw [check_pref h1 h2 HX.out.2.2.1 HOK.out hlt hbad.out]; rfl, HBE.out.grown (grownBy_putObj' X2 D (.deferred none)) (by omega) (fun r e => by cases e; omega)⟩
        · have hten : (p[k]?.getD default).ten = qt := HTEN.out
          by_cases m1 : qt < -30
          · have hbad : Hid (okP p k = false) := by show _ = _; rw [okP, hten]; have : decide (-30 ≤ qt) = false := by simp; omega
                                                    rw [this]; simp
            gi_wp2
            rw [Exit.noGoto_ret]
            refine ⟨by simp, .inl ⟨_, _, rfl, run_takeDeferred hD2, ?_⟩⟩
            exact ⟨_, results_tmp rfl _ _ _, by rw [check_pref h1 h2 HX.out.2.2.1 HOK.out hlt hbad.out]; rfl, HBE.out.grown (grownBy_putObj' X2 D (.deferred none)) (by omega) (fun r e => by cases e; omega)⟩
          have m1' : decide (qt < -30) = false := decide_eq_false m1
          by_cases m2 : 30 < qt
          · have hbad : Hid (okP p k = false) := by show _ = _; rw [okP, hten]; have : decide (qt ≤ 30) = false := by simp; omega
                                                    rw [this]; simp
            gi_wp2
            rw [Exit.noGoto_ret]
            refine ⟨by simp, .inl ⟨_, _, rfl, run_takeDeferred hD2, ?_⟩⟩
            exact ⟨_, results_tmp rfl _ _ _, by rw [check_pref h1 h2 HX.out.2.2.1 HOK.out hlt hbad.out]; rfl, HBE.out.grown (grownBy_putObj' X2 D (.deferred none)) (by omega) (fun r e => by cases e; omega)⟩
          have m2' : decide (30 < qt) = false := decide_eq_false m2
          gi_wp2
          go_roundw
          case rel =>
            refine ⟨k + 1, by omega, by go_num, ?_, fun i hi => ?_, HG.out.trans ((World.grownBy_alloc wr _ (some (w.heap.size + 1 + 1))).trans HG2.out)⟩
            · rw [keysOf, HCSP.out]
              exact HS2.out.mono (by omega)
            · by_cases hik : i < k
              · exact HOK.out i hik
              · have : i = k := by omega
                subst this
                have g1 : decide (-30 ≤ qt) = true := by simp; omega
                have g2 : decide (qt ≤ 30) = true := by simp; omega
                rw [okP, HCSP.out, HO1.out, hten, g1, g2]
                rfl
          case measure => simp [intOf]; omega
      · have hk' : k = p.length := by omega
        subst hk'
        gi_wp2
        rw [Exit.noGoto_ret]
        have hDX := (Array.getElem?_eq_some_iff.1 HD1.out).1
        have hz1 := HG1.out.size
        have hz2 := HG.out.size
        have hD2 : wr.heap[D]? = some (.deferred (some [])) := (HG.out.block D (by omega) (by intro e; cases e; omega)).trans ((HG1.out.block D hDX (by intro e; cases e; omega)).trans HD1.out)
        have hx6 := HX.out.2.2.2.2.2.2
        have hbel : Below w.heap.size w wr := (HX.out.2.2.2.2.2.1.grown HG1.out (by omega) (fun r e => by cases e; omega)).grown HG.out (by omega) (fun r e => by cases e; omega)
        refine ⟨by simp, .inl ⟨_, _, rfl, run_takeDeferred hD2, ?_⟩⟩
        exact ⟨_, results_tmp rfl _ _ _, by rw [check_all h1 h2 HX.out.2.2.1 HOK.out]; rfl, hbel.grown (grownBy_putObj' wr D (.deferred none)) (by omega) (fun r e => by cases e; omega)⟩
  case stop =>
    rintro D c' pre X hD _ ⟨rfl, k, hx⟩ hk1
    have HX := Lib.hid hx
    have HD1 := Lib.hid hk1
    have hw1 := hx.2.2.2.1
    clear hx hk1
    gi_wp2
    rw [Exit.noGoto_ret]
    refine ⟨by simp, .inl ⟨_, _, rfl, run_takeDeferred HD1.out, ?_⟩⟩
    have hx6 := HX.out.2.2.2.2.2
    exact ⟨_, results_tmp rfl _ _ _, by rw [HX.out.answer h1 h2]; rfl, HX.out.2.2.2.2.1.grown (grownBy_putObj' X D (.deferred none)) (by omega) (fun r e => by cases e; omega)⟩
end Go.Proofs.YtiinppicdhidhaaDoor
