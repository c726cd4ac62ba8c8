/-
  Atoms as plain data; the iterator over a table's atoms (atoms.Each): what a round is given.
-/
import Derived.Deep.MidRow
import Derived.Test.YtiinppicdhidhaaDoorRh
set_option linter.unusedVariables false
set_option linter.unusedSimpArgs false
namespace Go.Proofs.YtiinppicdhidhaaDoor
open Go.RowKit
open Go.Proofs
open Go.Shelf
attribute [local go_sem] Oper.semAt_some

/-- An atom, its terms as a slice. -/
structure AtomD where
  c0 : ByteArray
  c1 : ByteArray
  c2 : ByteArray
  c3 : ByteArray
  c4 : ByteArray
  metric : Bool
  tag : Int
  base : Int
  num : Int
  den : Int
  ten : Int
  ta : Option Addr
  tn : Nat
  tc : Nat
  deriving Inhabited
def atomL (x : AtomD) : List Value := [.string x.c0, .string x.c1, .string x.c2, .string x.c3, .string x.c4, .bool x.metric, .int .i64 x.tag, .int .i64 x.base, .int .i64 x.num, .int .i64 x.den, .int .i64 x.ten, .slice x.ta x.tn x.tc]
def atomsL (t : List AtomD) : List Value := t.flatMap atomL
theorem atomsL_length (t : List AtomD) : (atomsL t).length = t.length * 12 := by
  induction t with
  | nil => rfl
  | cons x r ih => simp [atomsL, atomL] at ih ⊢; omega
theorem flat_take {α : Type} (f : α → List Value) (k : Nat) : ∀ (l : List α), (∀ a ∈ l, (f a).length = k) → ∀ i (h : i < l.length), ((l.flatMap f).drop (i * k)).take k = f l[i]
  | [], _, i, h => by simp at h
  | a :: l, hf, 0, _ => by
    have := hf a (by simp)
    simp [← this]
  | a :: l, hf, i + 1, h => by
    have h1 := hf a (by simp)
    have h2 := flat_take f k l (fun b hb => hf b (by simp [hb])) i (by simpa using h)
    rw [List.flatMap_cons, Nat.add_mul, Nat.one_mul, Nat.add_comm, List.drop_append, ← h1]
    simp only [List.drop_eq_nil_of_le (Nat.le_add_right (f a).length (i * (f a).length)), List.nil_append, Nat.add_sub_cancel_left]
    rw [← h1] at h2
    exact h2
theorem atomD_range {w : World} {g o : Nat} {t : List AtomD} (h : w.rangeAt g o (atomsL t)) (k : Nat) (hk : k < t.length) : w.rangeAt g (o + k * 12) (atomL t[k]) := by
  intro j v hj
  have h2 := h (k * 12 + j) v
  rw [← Nat.add_assoc] at h2
  apply h2
  have hd := flat_take atomL 12 t (fun x _ => rfl) k hk
  rw [← hd, List.getElem?_take] at hj
  split at hj
  · rwa [List.getElem?_drop] at hj
  · cases hj
theorem range_below {w w' : World} {g o B : Nat} {cs : List Value} (h : w.rangeAt g o cs) (hb : Below B w w') (hg : g < B) : w'.rangeAt g o cs := fun j v hj => (hb.cell (p := ⟨g, o + j, none⟩) hg).trans (h j v hj)
theorem range_lt {w : World} {g o : Nat} {cs : List Value} (h : w.rangeAt g o cs) (hn : cs ≠ []) : g < w.heap.size := by
  cases cs with
  | nil => exact (hn rfl).elim
  | cons v r => exact World.block_lt_of_cell? w ⟨g, o + 0, none⟩ (h 0 v rfl)
theorem wpListIn_load_mid {F : Fence} {n : Nat} {P : Program} {ops : Array Oper} {rest : List Oper} {op : Oper} {a : Act} {w : World} {Q : Exit → Act → World → Prop} (hgd : op.guard = none) (ty : TypeId) (x : Operand) (ho : op.op = .load ty x)
    (b o : Nat) (hx : a.eval x = .pointer (some ⟨b, o, none⟩)) (cs : List Value) (d : TypeDesc) (hc : w.rangeAt b o cs)
    (hu : P.underlying ty = some d) (hd : d.isRow = true) (hi : (P.info? ty).map (·.size) = some cs.length)
    (h : wpListIn F n P ops Q rest (a.put op.dst (.agg cs.toArray)) w) : wpListIn F n P ops Q (op :: rest) a w := by
  refine wpListIn_plain hgd fun K hK => ?_
  unfold Oper.wpIn
  refine ⟨by simp [Oper.about, ho], ?_⟩
  rw [Oper.semAt_plain F _ _ (by rw [ho]; intro c hc'; cases hc')]
  unfold execOp
  simp only [ho, hx, Instr.loadAt, Instr.sureAddr, Sem.run_bind, Sem.run_pure, Result.andThen_ok, run_loadVar_mid w b o ty cs d hc hu hd hi]
  exact hK _ _ h
theorem size_Atom : (Tryd.prog.info? 33).map (·.size) = some 12 := by kernel_rfl

/-- The first k atoms, each with its place. -/
def firstA (t : List AtomD) (k : Nat) : List (Nat × AtomD) := (List.range k).map fun j => (j, t[j]?.getD default)
theorem firstA_succ (t : List AtomD) (k : Nat) : firstA t (k + 1) = firstA t k ++ [(k, t[k]?.getD default)] := by
  unfold firstA
  rw [List.range_succ, List.map_append]
  rfl
def encE (x : Nat × AtomD) : Array Value := #[.int .i64 (x.1 : Int), .agg (atomL x.2).toArray]
def okE (t : List AtomD) (pre : List (Nat × AtomD)) (x : Nat × AtomD) : Prop := ∃ k, k < t.length ∧ pre = firstA t k ∧ x = (k, t[k]?.getD default)
def atomArrD (x : AtomD) : Array Value := #[.string x.c0, .string x.c1, .string x.c2, .string x.c3, .string x.c4, .bool x.metric, .int .i64 x.tag, .int .i64 x.base, .int .i64 x.num, .int .i64 x.den, .int .i64 x.ten, .slice x.ta x.tn x.tc]
set_option maxRecDepth 100000 in
set_option maxHeartbeats 4000000 in
theorem each1_in (F : Fence) (n : Nat) (hf : F.fn 27) (hro : F.round = none) (hn : 1 ≤ n) (l Tb b off cap : Nat) (bx : List Nat) (t : List AtomD) (hlen : t.length ≤ 10000) (hb : b ∉ bx)
    (J Jx : List (Nat × AtomD) → World → Prop) (B : Nat) (hJ : OwnFrom B J)
    (hY : ∀ pre x W, J pre W → okE t pre x → YieldAt F (n - 1) Tryd.prog l (encE x) W fun e W' =>
      (e = .returned (.bool true) ∧ J (pre ++ [x]) W' ∧ KeepC bx W W') ∨ (e = .returned (.bool false) ∧ Jx (pre ++ [x]) W' ∧ KeepC bx W W'))
    (W : World) (hTb : W.cell? ⟨Tb, 0, none⟩ = some (.slice (some ⟨b, off, none⟩) t.length cap))
    (hr : W.rangeAt b off (atomsL t)) (h0 : J [] W) :
    CallsIn F n Tryd.prog 27 #[.func (.yield l) #[] #[], .pointer (some ⟨Tb, 0, none⟩)] W fun e W' => (∃ v, e = .returned v) ∧
      ((∃ ys, ys = firstA t t.length ∧ J ys W') ∨ (∃ pre, (∃ k, k ≤ t.length ∧ pre = firstA t k) ∧ Jx pre W')) := by
  have HR := Lib.hid hr
  have HJ := Lib.hid hJ
  have HY := Lib.hid hY
  clear hr hJ hY
  refine callsIn_of_wp Tryd.func27 rfl hf ?_ hro
  simp only [Tryd.ntmps27, List.size_toArray, List.length_cons, List.length_nil, Nat.reduceAdd, Nat.reduceSub, Array.replicate_succ, Array.replicate_zero, List.push_toArray, List.append_toArray, List.nil_append, List.cons_append]
  gi_wp2
  gi_loopw [8] (fun i wr => ∃ k : Nat, k ≤ t.length ∧ i = .int .i64 k ∧ J (firstA t k) wr ∧ KeepC bx W wr)
    (fun i _ => t.length - (intOf i).toNat)
  case atStart => exact ⟨0, Nat.zero_le _, rfl, h0, KeepC.refl _ _⟩
  case round =>
    obtain ⟨k, hk, rfl, hJs, hnx⟩ := hrel
    by_cases hlt : k < t.length
    · obtain ⟨x, hx⟩ : ∃ x, t[k]?.getD default = x := ⟨_, rfl⟩
      have hxk : t[k] = x := by rw [← hx, List.getElem?_eq_getElem hlt]; rfl
      have hst := atomD_range HR.out k hlt
      rw [hxk] at hst
      have HXE := Lib.hid hx
      clear hx hxk
      obtain ⟨x0, x1, x2, x3, x4, xm, xt, xb, xn, xd, xe, xa, xl, xc⟩ := x
      have HST : Hid (wr.rangeAt b (off + k * 12) [.string x0, .string x1, .string x2, .string x3, .string x4, .bool xm, .int .i64 xt, .int .i64 xb, .int .i64 xn, .int .i64 xd, .int .i64 xe, .slice xa xl xc]) := fun j v hj => hnx.cell hb (hst j v hj)
      clear hst
      have HJA : Hid (J (firstA t k) (wr.alloc (.cells #[.string x0, .string x1, .string x2, .string x3, .string x4, .bool xm, .int .i64 xt, .int .i64 xb, .int .i64 xn, .int .i64 xd, .int .i64 xe, .slice xa xl xc] 33))) := HJ.out.alloc _ hJs
      have HBA : Hid (KeepC bx W (wr.alloc (.cells #[.string x0, .string x1, .string x2, .string x3, .string x4, .bool xm, .int .i64 xt, .int .i64 xb, .int .i64 xn, .int .i64 xd, .int .i64 xe, .slice xa xl xc] 33))) := hnx.alloc _
      have hsel := Lib.hid (firstA_succ t k)
      obtain ⟨fn, tmps, assign, body, hy, hR⟩ := HY.out (firstA t k) (k, ⟨x0, x1, x2, x3, x4, xm, xt, xb, xn, xd, xe, xa, xl, xc⟩) _ HJA.out ⟨k, hlt, rfl, by rw [HXE.out]⟩
      simp only [encE, atomL] at hy
      clear hJs hnx
      gi_wp2_with (refine wpListIn_load_mid rfl 33 _ rfl b _ rfl _ _ HST.out Tryd.underlying33 rfl size_Atom ?_)
      refine hR.mono ?_
      rintro e W3 (⟨rfl, hJ3, hk3⟩ | ⟨rfl, hJx3, _⟩)
      · gi_wp2
        go_roundw
        case rel => exact ⟨k + 1, by omega, by simp, by rw [hsel.out, HXE.out]; exact hJ3, HBA.out.trans hk3⟩
        case measure => simp [intOf]; omega
      · gi_wp2
        refine bodyPost_ret (results_none rfl _ _ _) rfl ?_
        exact ⟨⟨_, rfl⟩, .inr ⟨_, ⟨k + 1, by omega, by rw [hsel.out, HXE.out]⟩, hJx3⟩⟩
    · obtain rfl : k = t.length := by omega
      gi_wp2
      go_end0
      exact ⟨⟨_, rfl⟩, .inl ⟨_, rfl, hJs⟩⟩
end Go.Proofs.YtiinppicdhidhaaDoor
