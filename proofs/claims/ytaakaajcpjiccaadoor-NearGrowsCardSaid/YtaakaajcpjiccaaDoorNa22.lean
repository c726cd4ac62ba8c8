/-
  A range over atoms.Each whose rounds keep all cells but those of some types. symbol.All: the iterator over a notation's symbols; for each prefix it ranges over the table's atoms.
-/
import Derived.RangeFuncBox
import Derived.Test.YtaakaajcpjiccaaDoorNa19
import Derived.Test.YtaakaajcpjiccaaDoorNa21
set_option linter.unusedVariables false
set_option linter.unusedSimpArgs false
namespace Go.Proofs.YtaakaajcpjiccaaDoor
open Go.RowKit
open Go.Proofs
open Go.Shelf
attribute [local go_sem] Oper.semAt_some

/-- All cells but those of the types ts are kept. -/
def KeepT (ts : List TypeId) (A B : World) : Prop := A.heap.size ≤ B.heap.size ∧ ∀ (k : Nat) (cs : Array Value) (t : TypeId) (fr : Nat × Nat), t ∉ ts → A.heap[k]? = some (.cells cs t fr) → B.heap[k]? = some (.cells cs t fr)
theorem KeepT.refl (ts : List TypeId) (A : World) : KeepT ts A A := ⟨Nat.le_refl _, fun _ _ _ _ _ h => h⟩
theorem KeepT.trans {ts : List TypeId} {A B C : World} (h : KeepT ts A B) (k : KeepT ts B C) : KeepT ts A C := ⟨Nat.le_trans h.1 k.1, fun i cs t fr ht hi => k.2 i cs t fr ht (h.2 i cs t fr ht hi)⟩
theorem KeepT.below {ts : List TypeId} {A B : World} (h : Below A.heap.size A B) : KeepT ts A B := ⟨h.size, fun k cs t fr _ ho => (h.block k (Array.getElem?_eq_some_iff.1 ho).1).trans ho⟩
theorem KeepT.alloc {ts : List TypeId} {A B : World} (h : KeepT ts A B) (o : Obj) : KeepT ts A (B.alloc o) := h.trans (KeepT.below ((Below.refl _ _).alloc (Nat.le_refl _) _))
theorem KeepT.block {ts : List TypeId} {A B : World} {k : Nat} {t : TypeId} (h : KeepT ts A B) (ht : t ∉ ts) (hb : BlockT A k t) : BlockT B k t := by
  obtain ⟨cs, fr, hb⟩ := hb
  exact ⟨cs, fr, h.2 k cs t fr ht hb⟩
theorem KeepT.cell {ts : List TypeId} {A B : World} {k o : Nat} {t : TypeId} {v : Value} (h : KeepT ts A B) (ht : t ∉ ts) (hb : BlockT A k t) (hv : A.cell? ⟨k, o, none⟩ = some v) : B.cell? ⟨k, o, none⟩ = some v := by
  obtain ⟨cs, fr, hb⟩ := hb
  have h2 := h.2 k cs t fr ht hb
  simp only [World.cell?, hb] at hv
  simp only [World.cell?, h2]
  exact hv
theorem KeepT.putObj {ts : List TypeId} {A : World} {l : Nat} {o : Obj} (o' : Obj) (h : A.heap[l]? = some o) (hc : o.isCells = false) : KeepT ts A (A.putObj l o') := by
  refine ⟨(grownBy_putObj' A l o').size, fun k cs t fr _ hk => ?_⟩
  have hne : k ≠ l := by
    rintro rfl
    rw [h] at hk
    cases hk
    cases hc
  exact (World.putObj_heap_other hne).trans hk
theorem ownFrom_keepT {β : Type} {B : Nat} {ts : List TypeId} {w₀ : World} : OwnFrom B (fun (_ : β) W => KeepT ts w₀ W) :=
  fun _ X Y row hs hg hr => ⟨Nat.le_trans hs.1 hg.size, fun k cs t fr ht h0 => by
    have hX := hs.2 k cs t fr ht h0
    refine (hg.block k (Array.getElem?_eq_some_iff.1 hX).1 (fun e => ?_)).trans hX
    obtain ⟨_, o', h1, h2⟩ := hr k e.symm
    rw [hX] at h1
    cases h1
    cases h2⟩
set_option maxRecDepth 100000 in
set_option maxHeartbeats 4000000 in
theorem each1_T (F : Fence) (n : Nat) (hf : F.fn 67) (hro : F.round = none) (hn : 1 ≤ n) (l Tb b off cap : Nat) (bx : List TypeId) (t : List AtomD) (hlen : t.length ≤ 10000) (hb : 124 ∉ bx)
    (J Jx : List (Nat × AtomD) → World → Prop) (B : Nat) (hJ : OwnFrom B J)
    (hY : ∀ pre x W, J pre W → okE t pre x → YieldAt F (n - 1) Tryd.prog l (encE x) W fun e W' =>
      (e = .returned (.bool true) ∧ J (pre ++ [x]) W' ∧ KeepT bx W W') ∨ (e = .returned (.bool false) ∧ Jx (pre ++ [x]) W' ∧ KeepT bx W W'))
    (W : World) (hTb : W.cell? ⟨Tb, 0, none⟩ = some (.slice (some ⟨b, off, none⟩) t.length cap))
    (hr : W.rangeAt b off (atomsL t)) (hBT : BlockT W b 124) (h0 : J [] W) :
    CallsIn F n Tryd.prog 67 #[.func (.yield l) #[] #[], .pointer (some ⟨Tb, 0, none⟩)] W fun e W' => (∃ v, e = .returned v) ∧
      ((∃ ys, ys = firstA t t.length ∧ J ys W') ∨ (∃ pre, (∃ k, k ≤ t.length ∧ pre = firstA t k) ∧ Jx pre W')) := by
  have HR := Lib.hid hr
  have HJ := Lib.hid hJ
  have HY := Lib.hid hY
  clear hr hJ hY
  refine callsIn_of_wp Tryd.func67 rfl hf ?_ hro
  simp only [Tryd.ntmps67, List.size_toArray, List.length_cons, List.length_nil, Nat.reduceAdd, Nat.reduceSub, Array.replicate_succ, Array.replicate_zero, List.push_toArray, List.append_toArray, List.nil_append, List.cons_append]
  gi_wp2
  gi_loopw [8] (fun i wr => ∃ k : Nat, k ≤ t.length ∧ i = .int .i64 k ∧ J (firstA t k) wr ∧ KeepT bx W wr)
    (fun i _ => t.length - (intOf i).toNat)
  case atStart => exact ⟨0, Nat.zero_le _, rfl, h0, KeepT.refl _ _⟩
  case round =>
    obtain ⟨k, hk, rfl, hJs, hnx⟩ := hrel
    by_cases hlt : k < t.length
    · obtain ⟨x, hx⟩ : ∃ x, t[k]?.getD default = x := ⟨_, rfl⟩
      have hxk : t[k] = x := by rw [← hx, List.getElem?_eq_getElem hlt]; rfl
      have hst := atomD_range HR.out k hlt
      rw [hxk] at hst
      have HXE := Lib.hid hx
      clear hx hxk
      obtain ⟨x0, x1, x2, x3, x4, xm, xt, xb, xn, xd, xe, xa, xl, xc⟩ := x
      have HST : Hid (wr.rangeAt b (off + k * 12) [.string x0, .string x1, .string x2, .string x3, .string x4, .bool xm, .int .i64 xt, .int .i64 xb, .int .i64 xn, .int .i64 xd, .int .i64 xe, .slice xa xl xc]) := fun j v hj => hnx.cell hb hBT (hst j v hj)
      clear hst
      have HJA : Hid (J (firstA t k) (wr.alloc (.cells #[.string x0, .string x1, .string x2, .string x3, .string x4, .bool xm, .int .i64 xt, .int .i64 xb, .int .i64 xn, .int .i64 xd, .int .i64 xe, .slice xa xl xc] 124))) := HJ.out.alloc _ hJs
      have HBA : Hid (KeepT bx W (wr.alloc (.cells #[.string x0, .string x1, .string x2, .string x3, .string x4, .bool xm, .int .i64 xt, .int .i64 xb, .int .i64 xn, .int .i64 xd, .int .i64 xe, .slice xa xl xc] 124))) := hnx.alloc _
      have hsel := Lib.hid (firstA_succ t k)
      obtain ⟨fn, tmps, assign, body, hy, hR⟩ := HY.out (firstA t k) (k, ⟨x0, x1, x2, x3, x4, xm, xt, xb, xn, xd, xe, xa, xl, xc⟩) _ HJA.out ⟨k, hlt, rfl, by rw [HXE.out]⟩
      simp only [encE, atomL] at hy
      clear hJs hnx
      gi_wp2_with (refine wpListIn_load_mid rfl 124 _ rfl b _ rfl _ _ HST.out Tryd.underlying124 rfl size_Atom ?_)
      refine hR.mono ?_
      rintro e W3 (⟨rfl, hJ3, hk3⟩ | ⟨rfl, hJx3, _⟩)
      · gi_wp2
        go_roundw
        case rel => exact ⟨k + 1, by omega, by simp, by rw [hsel.out, HXE.out]; exact hJ3, HBA.out.trans hk3⟩
        case measure => simp [intOf]; omega
      · gi_wp2
        refine bodyPost_ret (results_none rfl _ _ _) rfl ?_
        exact ⟨⟨_, rfl⟩, .inr ⟨_, ⟨k + 1, by omega, by rw [hsel.out, HXE.out]⟩, hJx3⟩⟩
    · obtain rfl : k = t.length := by omega
      gi_wp2
      go_end0
      exact ⟨⟨_, rfl⟩, .inl ⟨_, rfl, hJs⟩⟩
theorem each_T (F : Fence) (n : Nat) (hf : F.fn 67) (hro : F.round = none) (hn : 1 ≤ n) (Tb : Nat) (bx : List TypeId) (b off cap : Nat) (t : List AtomD) (hlen : t.length ≤ 10000) (w : World)
    (hTb : w.cell? ⟨Tb, 0, none⟩ = some (.slice (some ⟨b, off, none⟩) t.length cap)) (hr : w.rangeAt b off (atomsL t)) (hb : 124 ∉ bx) (hBT : BlockT w b 124) (hbl : b < w.heap.size) :
    SeqO F n Tryd.prog 67 #[.pointer (some ⟨Tb, 0, none⟩)] encE (KeepT bx) (fun ys => ys = firstA t t.length) (fun pre => ∃ k, k ≤ t.length ∧ pre = firstA t k) (okE t) w := fun l J Jx W hW _ hJ _ hY h0 =>
  each1_T F n hf hro hn l Tb b off cap bx t hlen hb J Jx W.heap.size hJ hY W (cell_under hTb hW) (range_below hr hW hbl) (hBT.below hW) h0
end Go.Proofs.YtaakaajcpjiccaaDoor
namespace Go.Proofs.YtaakaajcpjiccaaDoor
open Go.RowKit
open Go.Proofs
open Go.Shelf
attribute [local go_sem] Oper.semAt_some

abbrev SymD := List UInt8 × Nat × Nat
/-- The symbols of the prefix q - 1 with the first k atoms; all ahead of the atom k of the prefix q - 1. -/
def symsA (m q k : Nat) : List SymD := ((List.range k).filter fun a => toldF m q a).map fun a => (textF m q a, q, a)
def symsTo (m q k : Nat) : List SymD := (List.range q).flatMap (symsQ m) ++ symsA m q k
theorem symsA_succ (m q k : Nat) : symsA m q (k + 1) = symsA m q k ++ if toldF m q k then [(textF m q k, q, k)] else [] := by
  unfold symsA
  rw [List.range_succ, List.filter_append, List.map_append]
  congr 1
  cases h : toldF m q k <;> simp [h]
theorem symsTo_succ (m q k : Nat) : symsTo m q (k + 1) = symsTo m q k ++ if toldF m q k then [(textF m q k, q, k)] else [] := by
  unfold symsTo
  rw [symsA_succ, List.append_assoc]
theorem symsTo_next (m q : Nat) : symsTo m (q + 1) 0 = symsTo m q 48 := by
  unfold symsTo
  rw [List.range_succ, List.flatMap_append]
  simp [symsA, symsQ]
theorem symsTo_all (m : Nat) : symsTo m 21 0 = symsF m := by
  unfold symsTo symsF
  simp [symsA]
def encY (x : SymD) : Array Value := #[.string ⟨x.1.toArray⟩, .agg #[.int .i64 (x.2.2 : Int), .int .i64 ((x.2.1 : Int) - 1)]]
def okY (m : Nat) (pre : List SymD) (x : SymD) : Prop := ∃ q k, q < 21 ∧ k < 48 ∧ pre = symsTo m q k ∧ toldF m q k = true ∧ x = (textF m q k, q, k)
/-- The symbols of a notation, of whatever number. -/
def symsN (n : Int) : List SymD := if 1 ≤ n ∧ n ≤ 5 then symsF (n.toNat - 1) else []
def partN (n : Int) (pre : List SymD) : Prop := 1 ≤ n ∧ n ≤ 5 ∧ ∃ q k, q < 21 ∧ k ≤ 48 ∧ pre = symsTo (n.toNat - 1) q k
def okN (n : Int) (pre : List SymD) (x : SymD) : Prop := 1 ≤ n ∧ n ≤ 5 ∧ okY (n.toNat - 1) pre x
/-! Marks of loops that were left. -/
def MarksIn (B U : Nat) (w : World) : List Deferred → Prop
  | [] => True
  | d :: ds => ∃ r, d = { target := .collected r, args := #[] } ∧ B ≤ r ∧ r < U ∧ w.heap[r]? = some (.deferred (some [])) ∧ MarksIn B r w ds
theorem MarksIn.wide {B U U' : Nat} {w : World} : ∀ {ds : List Deferred}, MarksIn B U w ds → U ≤ U' → MarksIn B U' w ds
  | [], _, _ => trivial
  | _ :: _, ⟨r, h1, h2, h3, h4, h5⟩, h => ⟨r, h1, h2, by omega, h4, h5⟩
theorem MarksIn.keep {B U : Nat} {w w' : World} (hk : ∀ r, B ≤ r → r < U → ∀ o, o.isCells = false → w.heap[r]? = some o → w'.heap[r]? = some o) : ∀ {ds : List Deferred} {V : Nat}, V ≤ U → MarksIn B V w ds → MarksIn B V w' ds
  | [], _, _, _ => trivial
  | _ :: _, V, hV, ⟨r, h1, h2, h3, h4, h5⟩ => ⟨r, h1, h2, h3, hk r h2 (by omega) _ rfl h4, MarksIn.keep hk (by omega) h5⟩
/-- At the function's end all marks are taken in. -/
theorem leaves_marks {F : Fence} {n : Nat} {P : Program} {fn : Func} {tmps : Array Value} {R : Ending → World → Prop} {B : Nat} (hR : fn.results = #[]) (T : World → Prop) (hT : ∀ w r, T w → B ≤ r → w.heap[r]? = some (.deferred (some [])) → T (w.putObj r (.deferred none))) (hend : ∀ w v, T w → R (.returned v) w) :
    ∀ (ds : List Deferred) (U : Nat) (w : World), MarksIn B U w ds → T w → LeavesInM F n P fn tmps R ds .returning w
  | [], U, w, _, h => by
    exact ⟨_, results_none hR _ _ _, hend _ _ h⟩
  | d :: ds, U, w, ⟨r, h1, h2, h3, h4, h5⟩, h => by
    subst h1
    refine ⟨by simp, .inl ⟨r, _, rfl, run_takeDeferred h4, ?_⟩⟩
    refine leaves_marks hR T hT hend ds r _ (h5.keep (U := r) (fun k h1 h2 o _ ho => ?_) (Nat.le_refl _)) (hT _ _ h h2 h4)
    rw [World.putObj_heap_other (by omega)]
    exact ho
set_option maxHeartbeats 1000000 in
theorem all_in (F : Fence) (m : Nat) (hf : F.fn 31) (hro : F.round = none) (n : Int) (w : World) :
    CallsIn F m Tryd.prog 31 #[.int .i64 n] w fun e w' =>
      e = .returned (.func (.func 43) #[] #[.pointer (some ⟨w.heap.size, 0, none⟩)]) ∧ w' = w.alloc (.cells #[.int .i64 n] 3) := by
  refine callsIn_of_wp Tryd.func31 rfl hf ?_ hro
  simp only [Tryd.ntmps31, List.size_toArray, List.length_cons, List.length_nil, Nat.reduceAdd, Nat.reduceSub, Array.replicate_succ, Array.replicate_zero, List.push_toArray, List.append_toArray, List.nil_append, List.cons_append]
  gi_wp2
  go_ret
  exact ⟨rfl, rfl⟩
theorem firstA_length (t : List AtomD) (k : Nat) : (firstA t k).length = k := by simp [firstA]
theorem cellNew3 {w : World} {cs : Array Value} {t : TypeId} {n j : Nat} {v : Value} (hn : n = w.heap.size) (h : cs[j]? = some v) : (w.alloc (.cells cs t)).cell? ⟨n, j, none⟩ = some v := by
  subst hn
  exact cellNew w cs t j v h
theorem keepsBelow {A B : World} (n : Nat) (h : Below A.heap.size A B) : KeepsFrom n A B := ⟨h.size, fun k o _ ho _ => (h.block k (Array.getElem?_eq_some_iff.1 ho).1).trans ho⟩
/-- None of the types of the iterator's own cells. -/
structure ClearT (ts : List TypeId) : Prop where
  n1 : 85 ∉ ts
  n2 : 91 ∉ ts
  n3 : 3 ∉ ts
  n4 : 124 ∉ ts
  n5 : 145 ∉ ts
/-- A book's own blocks. -/
structure BookT (w : World) (g g2 : Nat) (ss : Nat → Value) : Prop where
  book : BookIn w g g2 ss
  b1 : BlockT w g 124
  b2 : BlockT w g2 145
theorem BookT.keep {ts : List TypeId} {A B : World} {g g2 : Nat} {ss : Nat → Value} (h : BookT A g g2 ss) (hk : KeepT ts A B) (h1 : 124 ∉ ts) (h2 : 145 ∉ ts) : BookT B g g2 ss :=
  ⟨⟨fun j v hj => hk.cell h1 h.b1 (h.book.atoms j v hj), Nat.lt_of_lt_of_le h.book.glt hk.1, fun j v hj => hk.cell h2 h.b2 (h.book.pres j v hj), Nat.lt_of_lt_of_le h.book.g2lt hk.1⟩, hk.block h1 h.b1, hk.block h2 h.b2⟩
theorem BookT.below {A B : World} {g g2 : Nat} {ss : Nat → Value} (h : BookT A g g2 ss) (hb : Below A.heap.size A B) : BookT B g g2 ss := ⟨h.book.below hb, h.b1.below hb, h.b2.below hb⟩
theorem blockT_of {w : World} {k : Nat} {cs : Array Value} {t : TypeId} {fr : Nat × Nat} (h : w.heap[k]? = some (.cells cs t fr)) : BlockT w k t := ⟨cs, fr, h⟩
theorem own_below {α : Type} {B : Nat} {J : List α → World → Prop} (hJ : OwnFrom B J) {s : List α} {A C : World} (h : J s A) (hb : Below A.heap.size A C) : J s C := hJ s A C none h (grownBy_below (B := 0) hb none) (fun r e => by cases e)
theorem MarksIn.keeps {B U : Nat} {w w' : World} {ds : List Deferred} (h : MarksIn B U w ds) (hk : KeepsFrom B w w') : MarksIn B U w' ds := h.keep (U := U) (fun r hr _ o hc ho => hk.same r o hr ho hc) (Nat.le_refl _)
def ptrAt (v : Value) : Addr := match v with | .pointer (some p) => p | _ => ⟨0, 0, none⟩
def muP (a : Act) (X : World) : Nat := 21 - (intOf ((X.cell? (ptrAt (a.tmps.getD 5 undef))).getD undef) + 1).toNat
theorem mu_less {a b : Act} {X Y : World} {p r : Addr} {q : Nat} (ha : a.tmps.getD 5 undef = .pointer (some p)) (hb : b.tmps.getD 5 undef = .pointer (some r)) (hX : X.cell? p = some (.int .i64 ((q : Int) - 1))) (hY : Y.cell? r = some (.int .i64 (q : Int))) (hq : q < 21) : muP b Y < muP a X := by
  unfold muP
  rw [ha, hb]
  simp only [ptrAt]
  rw [hX, hY]
  simp only [Option.getD_some, intOf]
  omega
set_option maxRecDepth 100000 in
set_option maxHeartbeats 4000000 in
theorem all1_in (m : Nat) (hm : 6 ≤ m) (l Nb B0 : Nat) (n : Int) (bx : List TypeId) (hts : ClearT bx)
    (J Jx : List SymD → World → Prop) (W : World) (hL : Laid W) (hB0 : B0 ≤ W.heap.size) (hJ : OwnFrom W.heap.size J) (hJx : OwnFrom W.heap.size Jx)
    (hY : ∀ pre x W1, J pre W1 → okN n pre x → YieldAt Fence.wide (m - 1) Tryd.prog l (encY x) W1 fun e W' =>
      (e = .returned (.bool true) ∧ J (pre ++ [x]) W' ∧ (KeepT bx W1 W' ∧ KeepsFrom B0 W1 W')) ∨ (e = .returned (.bool false) ∧ Jx (pre ++ [x]) W' ∧ KeepT bx W1 W' ∧ KeepsFrom B0 W1 W'))
    (hn : W.cell? ⟨Nb, 0, none⟩ = some (.int .i64 n)) (h0 : J [] W) :
    CallsIn Fence.wide m Tryd.prog 43 #[.func (.yield l) #[] #[], .pointer (some ⟨Nb, 0, none⟩)] W fun e W' => (∃ v, e = .returned v) ∧
      ((∃ ys, ys = symsN n ∧ J ys W') ∨ (∃ pre, partN n pre ∧ Jx pre W')) := by
  have HL := Lib.hid hL
  have HJ := Lib.hid hJ
  have HJX := Lib.hid hJx
  have HY := Lib.hid hY
  have HN := Lib.hid hn
  have HBA : Hid (Below W.heap.size W (W.alloc (.cells #[.func (.yield l) #[] #[]] 85))) := (Below.refl _ _).alloc (Nat.le_refl _) _
  have hnA := cell_under hn HBA.out
  have HCY := blkNew W #[.func (.yield l) #[] #[]] 85
  clear hL hJ hJx hY hn
  refine callsIn_of_wp_marks Tryd.func43 rfl trivial ?_ rfl
  simp only [Tryd.ntmps43, List.size_toArray, List.length_cons, List.length_nil, Nat.reduceAdd, Nat.reduceSub, Array.replicate_succ, Array.replicate_zero, List.push_toArray, List.append_toArray, List.nil_append, List.cons_append]
  gi_wp2
  refine ⟨trivial, fun _ => by omega, ?_⟩
  refine (callsIn_wide.2 (open_any n _ (laid_under HL.out HBA.out))).mono ?_
  rintro e w1 ⟨g, c1, g2, c2, ss, rfl, hB, hg, hg2, hBT, hb1⟩
  rw [World.size_alloc] at hg hg2
  have HB := Lib.hid hB
  have HB1 := Lib.hid hb1
  have HKY0 := Lib.hid (blkUnder HCY hb1)
  have HBT := Lib.hid hBT
  have W1 := Lib.hid (HBA.out.trans (hb1.mono HBA.out.size))
  clear hB hb1 HCY hnA hBT
  by_cases hn : 1 ≤ n ∧ n ≤ 5
  · rw [decide_eq_true hn]
    obtain ⟨mm, rfl⟩ : ∃ mm : Nat, n = (mm : Int) + 1 := ⟨n.toNat - 1, by omega⟩
    have hmm : mm < 5 := by omega
    obtain ⟨n1, n2, n3, n4, n5⟩ := hts
    gi_wp2
    have hw1 : W.heap.size + 1 ≤ w1.heap.size := by have := HB1.out.size; simpa using this
    obtain ⟨V, hV⟩ : ∃ V, ((w1.alloc (.cells #[.slice (some ⟨g, 0, none⟩) 48 c1, .slice (some ⟨g2, 0, none⟩) 20 c2, .int .i64 ((mm : Int) + 1)] 91)).alloc (.cells #[.int .i64 (-1)] 3)) = V := ⟨_, rfl⟩
    have hWV : Hid (Below W.heap.size W V) := by show _; rw [← hV]; exact (W1.out.alloc (by omega) _).alloc (by simp; omega) _
    have hBV : Hid (BookT V g g2 ss) := by show _; rw [← hV]; exact BookT.below ⟨HB.out, HBT.out.1, HBT.out.2⟩ (((Below.refl _ _).alloc (Nat.le_refl _) _).alloc (by simp) _)
    have hk := two_new w1 #[.slice (some ⟨g, 0, none⟩) 48 c1, .slice (some ⟨g2, 0, none⟩) 20 c2, .int .i64 ((mm : Int) + 1)] #[.int .i64 (-1)] 91 3
    rw [hV] at hk ⊢
    have hYV : Hid (V.heap[W.heap.size]? = some (.cells #[.func (.yield l) #[] #[]] 85 (0, 0))) := by show _; rw [← hV]; exact blkAlloc _ (blkAlloc _ HKY0.out)
    have hVs : V.heap.size = w1.heap.size + 2 := by rw [← hV]; simp
    have HKV := Lib.hid hk
    clear hk hV
    generalize hBb : w1.heap.size = Bb at hw1 hVs HKV ⊢
    refine wpIn_loop (fun a' X => ∃ (q Pb : Nat) (ds : List Deferred) (u9 u10 u11 u12 u13 u14 u15 u16 u17 u18 u19 u20 u21 u22 u23 u24 u25 u26 u27 u47 : Value), (q ≤ 21 ∧ J (symsTo mm q 0) X ∧ KeepT bx V X ∧ KeepsFrom W.heap.size V X ∧ (X.cell? ⟨Pb, 0, none⟩ = some (.int .i64 ((q : Int) - 1)) ∧ BlockT X Pb 3) ∧ W.heap.size ≤ Pb ∧ MarksIn W.heap.size X.heap.size X ds) ∧ a' = { tmps := #[.func (.yield l) #[] #[], .pointer (some ⟨Nb, 0, none⟩), .pointer (some ⟨W.heap.size, 0, none⟩), .pointer (some ⟨Bb, 0, none⟩), .bool true, .pointer (some ⟨Pb, 0, none⟩), undef, undef, undef, u9, u10, u11, u12, u13, u14, u15, u16, u17, u18, u19, u20, u21, u22, u23, u24, u25, u26, u27, undef, undef, undef, undef, undef, undef, undef, undef, undef, undef, undef, undef, undef, undef, undef, undef, undef, undef, undef, u47], defers := ds }) muP ?_ ?_
    · refine ⟨0, Bb + 1, [], _, _, _, _, _, _, _, _, _, _, _, _, _, _, _, _, _, _, _, _, ⟨by omega, ?_, KeepT.refl _ _, KeepsFrom.refl _ _, ?_, by omega, trivial⟩, rfl⟩
      · exact own_below HJ.out h0 (by have := hWV.out; exact this)
      · exact ⟨cellB HKV.out.2 (j := 0) rfl, blockT_of HKV.out.2⟩
    · rintro _ X ⟨q, Pb, ds, u9, u10, u11, u12, u13, u14, u15, u16, u17, u18, u19, u20, u21, u22, u23, u24, u25, u26, u27, u47, ⟨hq, hj, hkc, hkf, ⟨hp, hpT⟩, hPb, hmk⟩, rfl⟩
      have HJX0 := Lib.hid hj
      have HKC := Lib.hid hkc
      have HKF := Lib.hid hkf
      have HMK := Lib.hid hmk
      have HYX := Lib.hid (hkc.2 _ _ _ _ n1 hYV.out)
      have HKX := Lib.hid (hkc.2 _ _ _ _ n2 HKV.out.1)
      have y0 := cellB HYX.out (j := 0) rfl
      have b0 := cellB HKX.out (j := 0) rfl
      have b1 := cellB HKX.out (j := 1) rfl
      have b2 := cellB HKX.out (j := 2) rfl
      have HBX1 := Lib.hid (hBV.out.keep hkc n4 n5)
      clear hj hkc hkf hmk
      by_cases hlt : q < 21
      · have hz : (q : Int) - 1 < 20 := by omega
        gi_wp2
        refine ⟨trivial, fun _ => by omega, ?_⟩
        refine (each_in Fence.wide (m - 1) trivial rfl _ _ _ _ _ _ _).mono ?_
        rintro e w' ⟨rfl, rfl⟩
        gi_wp2
        have hXA : Below X.heap.size X (X.alloc (.cells #[.slice (some ⟨g, 0, none⟩) 48 c1, .slice (some ⟨g2, 0, none⟩) 20 c2] 89)) := (Below.refl _ _).alloc (Nat.le_refl _) _
        have HKCA := Lib.hid (HKC.out.trans (KeepT.below hXA))
        have HKFA := Lib.hid (HKF.out.trans (keepsBelow W.heap.size hXA))
        have HJA := Lib.hid (own_below HJ.out HJX0.out hXA)
        have HMKA := Lib.hid (HMK.out.keeps (keepsBelow W.heap.size hXA))
        have HBA1 := Lib.hid (HBX1.out.below hXA)
        have p0 := cell_under hp hXA
        have HYA := Lib.hid (blkUnder HYX.out hXA)
        have HKA := Lib.hid (blkUnder HKX.out hXA)
        have HPA := Lib.hid (hpT.below hXA)
        have hTb := cellNew X #[.slice (some ⟨g, 0, none⟩) 48 c1, .slice (some ⟨g2, 0, none⟩) 20 c2] 89 0 _ rfl
        have HPX := Lib.hid hp
        have hsX : (X.alloc (.cells #[.slice (some ⟨g, 0, none⟩) 48 c1, .slice (some ⟨g2, 0, none⟩) 20 c2] 89)).heap.size = X.heap.size + 1 := by simp
        have hXs : W.heap.size + 2 ≤ X.heap.size := by have := HKC.out.1; omega
        clear hXA hp hpT y0 b0 b1 b2 HKC HKF HJX0 HMK HBX1 HYX HKX
        generalize X.alloc (.cells #[.slice (some ⟨g, 0, none⟩) 48 c1, .slice (some ⟨g2, 0, none⟩) 20 c2] 89) = X0 at HKCA HKFA HJA HMKA HBA1 p0 HYA HKA HPA hTb hsX ⊢
        generalize X.heap.size = Tb at hTb hsX hXs HMKA ⊢
        refine range_ok (F := Fence.wide) rfl (by omega) (gf := 67) (lb := #[.pointer (some ⟨Tb, 0, none⟩)]) rfl trivial (enters_of Tryd.func67 (by kernel_rfl) rfl)
          ((each_T Fence.wide (m - 1) trivial rfl (by omega) Tb bx g 0 c1 (tabD ss) (by rw [tabD_length]; omega) X0 (by rw [tabD_length]; exact hTb) HBA1.out.book.atoms n4 HBA1.out.b1 HBA1.out.book.glt).kp (Kp' := fun A C => KeepT bx A C) (fun _ _ h => h))
          (fun h k => h.trans k)
          (fun X o o' h hc => KeepT.putObj o' h hc)
          (Below.refl _ _) (fun _ => rfl)
          (fun pre X => J (symsTo mm q pre.length) X ∧ KeepT bx X0 X ∧ KeepsFrom W.heap.size X0 X)
          (fun c pre X => c = .ret ∧ pre.length ≤ 48 ∧ Jx (symsTo mm q pre.length) X ∧ KeepsFrom W.heap.size X0 X)
          (fun s A C row hs hg hr => ⟨HJ.out _ A C row hs.1 hg (fun r e => ⟨by have := (hr r e).1; omega, (hr r e).2⟩), ownFrom_keepT s A C row hs.2.1 hg hr, ownFrom_keepsFrom (Nat.le_refl _) s A C row hs.2.2 hg hr⟩)
          (fun c s A C row hs hg hr => ⟨hs.1, hs.2.1, HJX.out _ A C row hs.2.2.1 hg (fun r e => ⟨by have := (hr r e).1; omega, (hr r e).2⟩), ownFrom_keepsFrom (Nat.le_refl _) s A C row hs.2.2.2 hg hr⟩)
          ⟨HJA.out, KeepT.refl _ _, KeepsFrom.refl _ _⟩
          (fun x a' X => a' = { tmps := #[.func (.yield l) #[] #[], .pointer (some ⟨Nb, 0, none⟩), .pointer (some ⟨W.heap.size, 0, none⟩), .pointer (some ⟨Bb, 0, none⟩), .bool true, .pointer (some ⟨Pb, 0, none⟩), .int .i64 (x.1 : Int), undef, undef, u9, u10, u11, u12, u13, .bool true, .bool true, .int .i64 ((q : Int) - 1), .pointer (some ⟨Bb, 0, none⟩), .pointer (some ⟨Bb, 1, none⟩), .slice (some ⟨g2, 0, none⟩) 20 c2, .int .i64 20, .bool true, .bool true, u23, u24, .pointer (some ⟨Bb, 0, none⟩), .agg #[.slice (some ⟨g, 0, none⟩) 48 c1, .slice (some ⟨g2, 0, none⟩) 20 c2], .func (.func 67) #[] #[.pointer (some ⟨Tb, 0, none⟩)], .int .i64 (x.1 : Int), .agg (atomL x.2).toArray, undef, undef, undef, undef, undef, undef, undef, undef, undef, undef, undef, undef, undef, undef, undef, undef, undef, u47], defers := [] })
          (fun x a' s A C row h hg hr => h) ?assign ?body ?done ?stop
        case assign =>
          rintro l2 pre ⟨i, x⟩ Y K hI hK
          simp only [encE] at hK ⊢
          gi_wp2
          exact hK _ _ (KeepsFrom.refl _ _) (KeepT.refl _ _) hI rfl
        case body =>
          rintro l2 pre x a' Y ⟨hj, hkc, hkf⟩ rfl ⟨k, hk, rfl, rfl⟩
          rw [firstA_length] at hj
          have hk48 : k < 48 := by rw [tabD_length] at hk; exact hk
          have y0 := cellB (hkc.2 _ _ _ _ n1 HYA.out) (j := 0) rfl
          have hkk := hkc.2 _ _ _ _ n2 HKA.out
          have b0 := cellB hkk (j := 0) rfl
          have b1 := cellB hkk (j := 1) rfl
          have b2 := cellB hkk (j := 2) rfl
          have p1 := hkc.cell n3 HPA.out p0
          have HBY := Lib.hid (HBA1.out.keep hkc n4 n5)
          have HJY := Lib.hid hj
          have HKY := Lib.hid hkc
          have HFY := Lib.hid hkf
          have HYs : Hid (X0.heap.size ≤ Y.heap.size) := hkc.1
          have HL1 : Hid ((firstA (tabD ss) k ++ [(k, (tabD ss)[k]?.getD default)]).length = k + 1) := by show _ = _; rw [List.length_append, firstA_length]; rfl
          have hsq := symsTo_succ mm q k
          clear hj hkc hkf hkk p0
          gi_wp2
          refine ⟨trivial, fun _ => by omega, ?_⟩
          refine (callsIn_wide.2 (told_any g c1 g2 c2 mm q k ss Y hmm hlt hk48 HBY.out.book)).mono ?_
          rintro e Y2 ⟨rfl, hb2⟩
          have y1 := cell_under y0 hb2
          have p2 := cell_under p1 hb2
          have HY2 := Lib.hid hb2
          have HJ2 := Lib.hid (own_below HJ.out HJY.out hb2)
          unfold toldV
          clear hb2 y0 b0 b1 b2 p1
          cases ht : toldF mm q k with
          | false =>
            rw [ht] at hsq
            simp only [Bool.false_eq_true, if_false, List.append_nil] at hsq
            gi_wp2
            refine ⟨(fun f h => by cases h), ?_⟩
            gi_wp2
            exact ⟨keepsBelow _ HY2.out, KeepT.below HY2.out, by rw [HL1.out, hsq]; exact HJ2.out, HKY.out.trans (KeepT.below HY2.out), HFY.out.trans (keepsBelow _ HY2.out)⟩
          | true =>
            rw [ht] at hsq
            simp only [if_true] at hsq
            obtain ⟨fn, tmps, assign, body, hy, hR⟩ := yield_inRound (l' := l2) (yield_any (m' := m - 1 - 1 - 1) rfl (HY.out (symsTo mm q k) (textF mm q k, q, k) Y2 HJ2.out ⟨by omega, by omega, q, k, hlt, hk48, by simp, by simpa using ht, by simp⟩))
            simp only [encY] at hy
            clear ht
            gi_wp2
            refine ⟨fun _ => by omega, ?_⟩
            refine hR.mono ?_
            rintro e X3 (⟨rfl, hj3, hk3, hf3⟩ | ⟨rfl, hj3, hk3, hf3⟩)
            · have HX3 := Lib.hid (And.intro hj3 (And.intro hk3 hf3))
              clear hj3 hk3 hf3 hR hy
              gi_wp2
              obtain ⟨hj3, hk3, hf3⟩ := HX3.out
              exact ⟨(keepsBelow _ HY2.out).trans (keepsMono hf3 (by omega)), (KeepT.below HY2.out).trans hk3, by rw [HL1.out, hsq]; exact hj3, (HKY.out.trans (KeepT.below HY2.out)).trans hk3, (HFY.out.trans (keepsBelow _ HY2.out)).trans (keepsMono hf3 (by omega))⟩
            · have HX3 := Lib.hid (And.intro hj3 (And.intro hk3 hf3))
              clear hj3 hk3 hf3 hR hy
              gi_wp2
              obtain ⟨hj3, hk3, hf3⟩ := HX3.out
              exact ⟨(keepsBelow _ HY2.out).trans (keepsMono hf3 (by omega)), (KeepT.below HY2.out).trans hk3, rfl, by rw [HL1.out]; omega, by rw [HL1.out, hsq]; exact hj3, (HFY.out.trans (keepsBelow _ HY2.out)).trans (keepsMono hf3 (by omega))⟩
        case done =>
          rintro D xs Y hD rfl ⟨hj, hkc, hkf⟩ hK
          rw [firstA_length, tabD_length, ← symsTo_next] at hj
          have p1 := hkc.cell n3 HPA.out p0
          have HJY := Lib.hid hj
          have HKY := Lib.hid (HKCA.out.trans hkc)
          have HFY := Lib.hid (HKFA.out.trans hkf)
          have HMY := Lib.hid (HMKA.out.keeps hkf)
          have HDY := Lib.hid hK
          have hDl := (Array.getElem?_eq_some_iff.1 hK).1
          have v1 : IntKind.i64.wrap (q : Int) = (q : Int) := IntWalk.i64_in _ (by omega)
          clear hj hkc hkf hK p0
          gi_wp2
          have hYA : Below Y.heap.size Y (Y.alloc (.cells #[.int .i64 (q : Int)] 3)) := (Below.refl _ _).alloc (Nat.le_refl _) _
          have hN := cellNew Y #[.int .i64 (q : Int)] 3 0 _ rfl
          refine ⟨⟨q + 1, Y.heap.size, { target := .collected D, args := #[] } :: ds, _, _, _, _, _, _, _, _, _, _, _, _, _, _, _, _, _, _, _, _, ⟨by omega, own_below HJ.out HJY.out hYA, HKY.out.trans (KeepT.below hYA), HFY.out.trans (keepsBelow _ hYA), ?_, by omega, ⟨D, rfl, by omega, by simp; omega, (hYA.block D hDl).trans HDY.out, (HMY.out.wide (by omega)).keeps (keepsBelow _ hYA)⟩⟩, rfl⟩, ?_⟩
          · exact ⟨by rw [hN]; simp, blockT_of (blkNew Y _ _)⟩
          · refine mu_less (q := q) rfl rfl HPX.out (by rw [hN]; simp) hlt
        case stop =>
          rintro D c pre Y hD ⟨k, hk, rfl⟩ ⟨rfl, hpl, hj, hkf⟩ hK
          have HMY := Lib.hid (HMKA.out.keeps hkf)
          have hDl := (Array.getElem?_eq_some_iff.1 hK).1
          rw [firstA_length] at hj hpl
          gi_wp2
          refine leaves_marks rfl (fun X => Jx (symsTo mm q k) X) (B := W.heap.size) (fun A r h hr ho => HJX.out.putObj _ h hr ho rfl) ?_ _ Y.heap.size Y ⟨D, rfl, by omega, hDl, hK, HMY.out.wide (by omega)⟩ hj
          intro A v h
          exact ⟨⟨_, rfl⟩, .inr ⟨_, ⟨by omega, by omega, q, k, hlt, hpl, by simp⟩, h⟩⟩
      · obtain rfl : q = 21 := by omega
        gi_wp2
        refine leaves_marks rfl (fun X => J (symsTo mm 21 0) X) (B := W.heap.size) (fun A r h hr ho => HJ.out.putObj _ h hr ho rfl) ?_ _ _ X HMK.out HJX0.out
        intro A v h
        exact ⟨⟨_, rfl⟩, .inl ⟨_, rfl, by rw [symsN, if_pos hn, ← symsTo_all]; simpa using h⟩⟩
  · rw [decide_eq_false hn]
    gi_wp2
    gi_loopw [24] (fun _ wr => J [] wr) (fun _ _ => 0)
    case atStart => exact HJ.out.alloc _ (HJ.out.alloc _ (HJ.out [] _ _ none h0 (grownBy_below (B := 0) W1.out none) (fun r e => by cases e)))
    case round =>
      gi_wp2
      exact ⟨_, results_none rfl _ _ _, ⟨_, rfl⟩, .inl ⟨_, rfl, by rw [symsN, if_neg hn]; exact hrel⟩⟩
/-- The contract of the iterator over a notation's symbols. -/
theorem all_seq (m : Nat) (hm : 6 ≤ m) (Nb : Nat) (n : Int) (bx : List TypeId) (hts : ClearT bx) (w : World) (hL : Laid w) (hn : w.cell? ⟨Nb, 0, none⟩ = some (.int .i64 n)) :
    SeqO Fence.wide m Tryd.prog 43 #[.pointer (some ⟨Nb, 0, none⟩)] encY (fun A C => KeepT bx A C ∧ KeepsFrom (w.heap.size + 2) A C) (fun ys => ys = symsN n) (partN n) (okN n) w := fun l J Jx W hW hz hJ hJx hY h0 =>
  all1_in m hm l Nb (w.heap.size + 2) n bx hts J Jx W (laid_under hL hW) hz hJ hJx hY (cell_under hn hW) h0
end Go.Proofs.YtaakaajcpjiccaaDoor
