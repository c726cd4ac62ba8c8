/-
  The tree's iterator over steps: what it hands on, round by round.
-/
import Derived.RangeFuncNested
import Derived.RangeFuncBound
import Derived.RangeFuncCalls
import Derived.RangeFuncLeaves
import Derived.Shelf.Abstract
import Derived.Shelf.RegionOpen
import Derived.WalkKit
import Derived.OwnWalkIn
import Derived.TacticsInMore
import Derived.LoopNIn
import Derived.LoopIn
import Derived.Test.YteiialpecaebdaaDoorRl
set_option linter.unusedVariables false
set_option linter.unusedSimpArgs false
namespace Go.Proofs.YteiialpecaebdaaDoor
open Go.RowKit
open Go.Proofs
open Go.Shelf
attribute [local go_sem] Oper.semAt_some

/-- Of the first k steps those whose op is asked for, each with its place. -/
def selS (ks : List Int) (t : List StepD) (k : Nat) : List (Nat × StepD) := ((List.range k).map fun j => (j, t[j]?.getD default)).filter fun x => ks.any fun o => x.2.op == o
theorem selS_succ (ks : List Int) (t : List StepD) (k : Nat) : selS ks t (k + 1) = selS ks t k ++ (if ks.any (fun o => (t[k]?.getD default).op == o) then [(k, t[k]?.getD default)] else []) := by
  unfold selS
  rw [List.range_succ, List.map_append, List.filter_append]
  simp only [List.map_cons, List.map_nil, List.filter_cons, List.filter_nil]
theorem selS_prefix (ks : List Int) (t : List StepD) : ∀ {j k : Nat}, j ≤ k → selS ks t j <+: selS ks t k := by
  intro j k h
  induction k with
  | zero => obtain rfl : j = 0 := by omega
            exact List.prefix_rfl
  | succ k ih =>
    by_cases e : j = k + 1
    · subst e; exact List.prefix_rfl
    · refine (ih (by omega)).trans ?_
      rw [selS_succ]
      exact List.prefix_append _ _
theorem selS_lt {ks : List Int} {t : List StepD} {k : Nat} (hk : k < t.length) (h : ks.any (fun o => (t[k]?.getD default).op == o) = true) : (selS ks t k).length < (selS ks t t.length).length := by
  have h1 := (selS_prefix ks t (show k + 1 ≤ t.length by omega)).length_le
  rw [selS_succ, if_pos h, List.length_append, List.length_singleton] at h1
  omega
def encS (x : Nat × StepD) : Array Value := #[.int .i64 (x.1 : Int), .agg (stepL x.2).toArray]
theorem any_take (ks : List Int) (z : Int) (m : Nat) (hm : m < ks.length) : ((ks.take (m + 1)).any fun o => z == o) = (((ks.take m).any fun o => z == o) || z == (ks[m]?.getD 0)) := by
  rw [List.take_add_one, List.any_append, List.getElem?_eq_getElem hm]
  simp
/-- What a round of the caller keeps: all cells but those of its own boxes bx. -/
def KeepC (bx : List Nat) (A B : World) : Prop := A.heap.size ≤ B.heap.size ∧ ∀ k o, k ∉ bx → A.heap[k]? = some o → o.isCells = true → B.heap[k]? = some o
theorem KeepC.refl (bx : List Nat) (A : World) : KeepC bx A A := ⟨Nat.le_refl _, fun _ _ _ h _ => h⟩
theorem KeepC.trans {bx : List Nat} {A B C : World} (h : KeepC bx A B) (k : KeepC bx B C) : KeepC bx A C := ⟨Nat.le_trans h.1 k.1, fun i o hi ho hc => k.2 i o hi (h.2 i o hi ho hc) hc⟩
theorem KeepC.alloc {bx : List Nat} {A B : World} (h : KeepC bx A B) (o : Obj) : KeepC bx A (B.alloc o) :=
  ⟨Nat.le_trans h.1 (by simp), fun k o' hk ho hc => by
    have := h.2 k o' hk ho hc
    rw [← this]
    exact heap_alloc_old B o k (Array.getElem?_eq_some_iff.1 this).1⟩
theorem KeepC.putObj {bx : List Nat} {A : World} {l : Nat} {o : Obj} (o' : Obj) (h : A.heap[l]? = some o) (hc : o.isCells = false) : KeepC bx A (A.putObj l o') :=
  ⟨by simp, fun k u hk hu huc => by
    refine (World.putObj_heap_other (fun e => ?_)).trans hu
    subst e
    rw [h] at hu
    cases hu
    rw [hc] at huc
    cases huc⟩
theorem KeepC.cell {bx : List Nat} {A B : World} (h : KeepC bx A B) {k o : Nat} {v : Value} (hk : k ∉ bx) (hv : A.cell? ⟨k, o, none⟩ = some v) : B.cell? ⟨k, o, none⟩ = some v := by
  simp only [World.cell?] at hv ⊢
  cases ho : A.heap[k]? with
  | none => simp [ho] at hv
  | some u =>
    have hc : u.isCells = true := by
      rw [ho] at hv
      cases u <;> simp_all [Obj.isCells]
    rw [h.2 k u hk ho hc, ← ho]
    exact hv
set_option maxRecDepth 100000 in
set_option maxHeartbeats 4000000 in
theorem steps1_in (F : Fence) (n : Nat) (hf : F.fn 44) (hro : F.round = none) (hn : 1 ≤ n) (l Bs Bo b off cap gb : Nat) (bx : List Nat) (t : List StepD) (ks : List Int) (hlen : t.length ≤ 1000) (hkl : ks.length ≤ 2) (hb : b ∉ bx) (hBo0 : Bo ∉ bx) (hgb0 : gb ∉ bx)
    (J Jx : List (Nat × StepD) → World → Prop) (B : Nat) (hJ : OwnFrom B J)
    (hY : ∀ pre x W, J pre W → pre.length < (selS ks t t.length).length → YieldAt F (n - 1) Tryd.prog l (encS x) W fun e W' =>
      (e = .returned (.bool true) ∧ J (pre ++ [x]) W' ∧ KeepC bx W W') ∨ (e = .returned (.bool false) ∧ Jx (pre ++ [x]) W' ∧ KeepC bx W W'))
    (W : World) (hBs : W.cell? ⟨Bs, 0, none⟩ = some (.slice (some ⟨b, off, none⟩) t.length cap)) (hBo : W.cell? ⟨Bo, 0, none⟩ = some (.slice (some ⟨gb, 0, none⟩) ks.length ks.length))
    (hr : W.rangeAt b off (stepsL t)) (hks : ∀ m, m < ks.length → W.cell? ⟨gb, m, none⟩ = some (.int .i64 (ks[m]?.getD 0))) (h0 : J [] W) :
    CallsIn F n Tryd.prog 44 #[.func (.yield l) #[] #[], .pointer (some ⟨Bs, 0, none⟩), .pointer (some ⟨Bo, 0, none⟩)] W fun e W' => (∃ v, e = .returned v) ∧
      ((∃ ys, ys = selS ks t t.length ∧ J ys W') ∨ (∃ pre, (∃ k, k ≤ t.length ∧ pre = selS ks t k) ∧ Jx pre W')) := by
  have HR := Lib.hid hr
  have HKS := Lib.hid hks
  have HJ := Lib.hid hJ
  have HY := Lib.hid hY
  clear hr hks hJ hY
  refine callsIn_of_wp Tryd.func44 rfl hf ?_ hro
  simp only [Tryd.ntmps44, List.size_toArray, List.length_cons, List.length_nil, Nat.reduceAdd, Nat.reduceSub, Array.replicate_succ, Array.replicate_zero, List.push_toArray, List.append_toArray, List.nil_append, List.cons_append]
  gi_wp2
  gi_loopw [11] (fun i wr => ∃ k : Nat, k ≤ t.length ∧ i = .int .i64 k ∧ J (selS ks t k) wr ∧ KeepC bx W wr)
    (fun i _ => t.length - (intOf i).toNat)
  case atStart => exact ⟨0, Nat.zero_le _, rfl, h0, KeepC.refl _ _⟩
  case round =>
    obtain ⟨k, hk, rfl, hJs, hnx⟩ := hrel
    by_cases hlt : k < t.length
    · obtain ⟨x, hx⟩ : ∃ x, t[k]?.getD default = x := ⟨_, rfl⟩
      have hxk : t[k] = x := by rw [← hx, List.getElem?_eq_getElem hlt]; rfl
      have hst := step_range HR.out k hlt
      rw [hxk] at hst
      have HXE := Lib.hid hx
      clear hx hxk
      obtain ⟨xo, xp, xa, xn, xm, xt⟩ := x
      have s0 : wr.cell? ⟨b, off + k * 6, none⟩ = some (.int .i64 xo) := hnx.cell hb (hst 0 _ rfl)
      have s1 : wr.cell? ⟨b, off + k * 6 + 1, none⟩ = some (.int .i64 xp) := hnx.cell hb (hst 1 _ rfl)
      have s2 : wr.cell? ⟨b, off + k * 6 + 2, none⟩ = some (.int .i64 xa) := hnx.cell hb (hst 2 _ rfl)
      have s3 : wr.cell? ⟨b, off + k * 6 + 3, none⟩ = some (.int .i64 xn) := hnx.cell hb (hst 3 _ rfl)
      have s4 : wr.cell? ⟨b, off + k * 6 + 4, none⟩ = some (.int .i64 xm) := hnx.cell hb (hst 4 _ rfl)
      have s5 : wr.cell? ⟨b, off + k * 6 + 5, none⟩ = some (.string xt) := hnx.cell hb (hst 5 _ rfl)
      have hbo3 := cellAlloc (.cells #[.int .i64 xo, .int .i64 xp, .int .i64 xa, .int .i64 xn, .int .i64 xm, .string xt] 35) (hnx.cell hBo0 hBo)
      have HJA : Hid (J (selS ks t k) (wr.alloc (.cells #[.int .i64 xo, .int .i64 xp, .int .i64 xa, .int .i64 xn, .int .i64 xm, .string xt] 35))) := HJ.out.alloc _ hJs
      have HBA : Hid (KeepC bx W (wr.alloc (.cells #[.int .i64 xo, .int .i64 xp, .int .i64 xa, .int .i64 xn, .int .i64 xm, .string xt] 35))) := hnx.alloc _
      have HKA : Hid (∀ m, m < ks.length → (wr.alloc (.cells #[.int .i64 xo, .int .i64 xp, .int .i64 xa, .int .i64 xn, .int .i64 xm, .string xt] 35)).cell? ⟨gb, m, none⟩ = some (.int .i64 (ks[m]?.getD 0))) := fun m hm => HBA.out.cell hgb0 (HKS.out m hm)
      clear hJs hnx
      gi_wp2
      gi_loopw [6, 18] (fun is i ws => ∃ m : Nat, m ≤ ks.length ∧ i = .int .i64 m ∧ is = .bool ((ks.take m).any fun o => xo == o) ∧ ws = wr.alloc (.cells #[.int .i64 xo, .int .i64 xp, .int .i64 xa, .int .i64 xn, .int .i64 xm, .string xt] 35))
        (fun _ i _ => ks.length - (intOf i).toNat)
      case atStart => exact ⟨0, Nat.zero_le _, rfl, by simp, rfl⟩
      case round =>
        obtain ⟨m, hm, rfl, rfl, rfl⟩ := hrel
        obtain ⟨bb, hbb⟩ : ∃ bb, ((ks.take m).any fun o => xo == o) = bb := ⟨_, rfl⟩
        rw [hbb]
        by_cases hlt2 : m < ks.length
        · have hkm := HKA.out m hlt2
          have HAT := Lib.hid (any_take ks xo m hlt2)
          have HBB := Lib.hid hbb
          clear hbb
          cases bb
          all_goals
            gi_wp2
            go_roundw
            case rel => exact ⟨m + 1, by omega, by simp, by rw [HAT.out, HBB.out]; simp [hlt2], by first | rfl | trivial⟩
            case measure => simp [intOf]; omega
        · obtain rfl : m = ks.length := by omega
          rw [List.take_length] at hbb
          have HBB := Lib.hid hbb
          clear hbb
          have hsel := Lib.hid (selS_succ ks t k)
          cases bb
          · gi_wp2
            refine ⟨fun _ h => (by cases h), ?_⟩
            gi_wp2
            go_roundw
            case rel => exact ⟨k + 1, by omega, by simp, by rw [hsel.out, HXE.out, HBB.out]; simpa using HJA.out, HBA.out⟩
            case measure => simp [intOf]; omega
          · obtain ⟨fn, tmps, assign, body, hy, hR⟩ := HY.out (selS ks t k) (k, ⟨xo, xp, xa, xn, xm, xt⟩) _ HJA.out (selS_lt hlt (by rw [HXE.out]; exact HBB.out))
            simp only [encS, stepArr] at hy
            gi_wp2
            refine hR.mono ?_
            rintro e W3 (⟨rfl, hJ3, hk3⟩ | ⟨rfl, hJx3, _⟩)
            · gi_wp2
              go_roundw
              case rel => exact ⟨k + 1, by omega, by simp, by rw [hsel.out, HXE.out, HBB.out]; simpa using hJ3, HBA.out.trans hk3⟩
              case measure => simp [intOf]; omega
            · gi_wp2
              refine bodyPost_ret (results_none rfl _ _ _) rfl ?_
              exact ⟨⟨_, rfl⟩, .inr ⟨_, ⟨k + 1, by omega, by rw [hsel.out, HXE.out, HBB.out]; rfl⟩, hJx3⟩⟩
    · obtain rfl : k = t.length := by omega
      gi_wp2
      go_end0
      exact ⟨⟨_, rfl⟩, .inl ⟨_, rfl, hJs⟩⟩
end Go.Proofs.YteiialpecaebdaaDoor
