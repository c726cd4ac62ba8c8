/-
  The law CodesAll: its walk.
-/
import Derived.Test.YtiakjbocnfkmnaaDoorAl
import Derived.Sort.LoopGhostIn
import Derived.WalkLawsBesides
set_option linter.unusedVariables false
set_option linter.unusedSimpArgs false
namespace Go.Proofs.YtiakjbocnfkmnaaDoor
open Go.RowKit
open Go.Proofs
open Go.Shelf
attribute [local go_sem] Oper.semAt_some

/-- The place behind the last one told. -/
def lastp (pre : List (Nat × ByteArray)) : Nat := match pre.getLast? with | none => 0 | some x => x.1 + 1
theorem lastp_snoc (pre : List (Nat × ByteArray)) (x : Nat × ByteArray) : lastp (pre ++ [x]) = x.1 + 1 := by simp [lastp]
theorem toldK_cases (n : Int) (k : Nat) : (codeOf n k = [] ∧ toldK n k = []) ∨ (codeOf n k ≠ [] ∧ toldK n k = [(k, ⟨(codeOf n k).toArray⟩)]) := by
  unfold toldK
  by_cases h : codeOf n k = []
  · exact .inl ⟨h, by rw [if_pos h]⟩
  · exact .inr ⟨h, by rw [if_neg h]⟩
theorem lastp_le (n : Int) : ∀ k, lastp (selK n k) ≤ k := by
  intro k
  induction k with
  | zero => simp [selK, lastp]
  | succ k ih =>
    rw [selK_succ]
    rcases toldK_cases n k with ⟨_, h⟩ | ⟨_, h⟩
    · rw [h, List.append_nil]; omega
    · rw [h, lastp_snoc]; exact Nat.le_refl _
theorem told_gap (n : Int) : ∀ k j, lastp (selK n k) ≤ j → j < k → codeOf n j = [] := by
  intro k
  induction k with
  | zero => intro j _ h; omega
  | succ k ih =>
    intro j h1 h2
    rw [selK_succ] at h1
    rcases toldK_cases n k with ⟨h0, h⟩ | ⟨_, h⟩
    · rw [h, List.append_nil] at h1
      by_cases e : j = k
      · subst e; exact h0
      · exact ih j h1 (by omega)
    · rw [h, lastp_snoc] at h1
      have : k + 1 ≤ j := h1
      omega
theorem selK_prefix (n : Int) {j k : Nat} (h : j ≤ k) : selK n j <+: selK n k := by
  induction k with
  | zero => obtain rfl : j = 0 := by omega
            exact List.prefix_rfl
  | succ k ih =>
    by_cases e : j = k + 1
    · subst e; exact List.prefix_rfl
    · refine (ih (by omega)).trans ?_
      rw [selK_succ]
      exact List.prefix_append _ _
theorem okC.lt {n : Int} {pre : List (Nat × ByteArray)} {x : Nat × ByteArray} (h : okC n pre x) : pre.length < (selK n 48).length := by
  obtain ⟨k, h1, rfl, h3⟩ := h
  have h5 := (selK_prefix n (show k + 1 ≤ 48 by omega)).length_le
  rw [selK_succ, h3, List.length_append, List.length_singleton] at h5
  omega
theorem selK_len (n : Int) : ∀ k, (selK n k).length ≤ k := by
  intro k
  induction k with
  | zero => simp [selK]
  | succ k ih =>
    rw [selK_succ, List.length_append]
    rcases toldK_cases n k with ⟨_, h⟩ | ⟨_, h⟩ <;> rw [h] <;> simp <;> omega
theorem selK_none (n : Int) (h : n < 1 ∨ 5 < n) : ∀ k, selK n k = [] := by
  intro k
  induction k with
  | zero => simp [selK]
  | succ k ih => rw [selK_succ, ih, toldK, if_pos (by unfold codeOf; rw [if_neg (by omega)])]; rfl
theorem selK_many (n : Int) (h1 : 1 ≤ n) (h2 : n ≤ 5) : 30 < (selK n 48).length := by
  have : n = 1 ∨ n = 2 ∨ n = 3 ∨ n = 4 ∨ n = 5 := by omega
  rcases this with rfl | rfl | rfl | rfl | rfl
  all_goals exact of_decide_eq_true (by kernel_rfl)
theorem results_cellB {fn : Func} {p : Tmp} {b : Bool} {a : Addr} (h : fn.results = #[.cell p 4]) (tmps : Array Value) (w : World) (hp : tmps.getD p undef = .pointer (some a)) (hc : w.cell? a = some (.bool b)) :
    (results fn tmps).run Tryd.prog w = .ok (.bool b) w := by
  have h1 : (loadVar 4 a).run Tryd.prog w = .ok (.bool b) w := by
    simp [loadVar, go_sem, hc]
  have hp2 : tmps[p]?.getD undef = .pointer (some a) := by simpa using hp
  simp [results, h, hp2, asAddr, h1, Result.andThen]
theorem eql_funcC (f : Fn) (bs : Array Value) (w : World) : (binOp .eql 48 (.func f #[] bs) .nilFunc).run Tryd.prog w = .ok (.bool false) w := by
  simp [binOp, go_sem, equal_nil Tryd.underlying48]
theorem bel2 {w a b : World} (h : Below w.heap.size w a) (k : Below a.heap.size a b) : Below w.heap.size w b := h.trans (k.mono h.size)
theorem bel3 {b B : Nat} {w A C : World} (h : Below b w A) (k : Below B A C) (hb : b ≤ B) : Below b w C := h.trans (k.mono hb)
theorem cell_belowT {B k o : Nat} {A C : World} {v : Value} (h : A.cell? ⟨k, o, none⟩ = some v) (hb : Below B A C) (hk : k < B) : C.cell? ⟨k, o, none⟩ = some v := (hb.cell (p := ⟨k, o, none⟩) hk).trans h
theorem keep2 {B k o : Nat} {A C : World} {v : Value} (h : A.cell? ⟨k, o, none⟩ = some v ∧ A.frozen? ⟨k, o, none⟩ = false) (hb : Below B A C) (hk : k < B) : C.cell? ⟨k, o, none⟩ = some v ∧ C.frozen? ⟨k, o, none⟩ = false := ⟨(hb.cell (p := ⟨k, o, none⟩) hk).trans h.1, (hb.frozen (p := ⟨k, o, none⟩) hk).trans h.2⟩
theorem below_keepC {bx : List Nat} {A B : World} (h : Below A.heap.size A B) : KeepC bx A B := ⟨h.size, fun k o _ ho _ => (h.block k (Array.getElem?_eq_some_iff.1 ho).1).trans ho⟩
theorem below_keepF {B : Nat} {A C : World} (h : Below A.heap.size A C) : KeepsFrom B A C := KeepsFrom.of_grownBy (row := none) (grownBy_below (B := 0) h none) (fun r e => by cases e)
def TrueB (w : World) (e : Ending) (w' : World) : Prop := e = .returned (.bool true) ∧ Below w.heap.size w w'
/-- Two boxes side by side. -/
def TwoAt (X : World) (M : Nat) (a b : Int) : Prop := (X.cell? ⟨M, 0, none⟩ = some (.int .i64 a) ∧ X.frozen? ⟨M, 0, none⟩ = false) ∧ X.cell? ⟨M + 1, 0, none⟩ = some (.int .i64 b) ∧ X.frozen? ⟨M + 1, 0, none⟩ = false
theorem TwoAt.keep {M : Nat} {a b : Int} {A C : World} (h : TwoAt A M a b) (hb : Below A.heap.size A C) : TwoAt C M a b :=
  ⟨keep2 h.1 hb (World.block_lt_of_cell? A ⟨M, 0, none⟩ h.1.1), keep2 h.2 hb (World.block_lt_of_cell? A ⟨M + 1, 0, none⟩ h.2.1)⟩
theorem TwoAt.own {B M : Nat} {f g : List (Nat × ByteArray) → Int} : OwnFrom B (fun pre X => TwoAt X M (f pre) (g pre)) :=
  Own.from (fun s A C row hs hg hr => ⟨⟨cell_kept hs.1.1 hg hr, (frozen_kept hs.1.1 hg hr).trans hs.1.2⟩, cell_kept hs.2.1 hg hr, (frozen_kept hs.2.1 hg hr).trans hs.2.2⟩) _
theorem TwoAt.set1 {X : World} {M : Nat} {a b : Int} (h : TwoAt X M a b) (z : Int) : TwoAt (X.setCell ⟨M, 0, none⟩ (.int .i64 z)) M z b :=
  ⟨⟨World.cell?_setCell_same' _ _ _ (by rw [h.1.1]; rfl), by rw [World.frozen?_setCell]; exact h.1.2⟩, (World.cell?_setCell_far _ _ _ _ (by show M ≠ M + 1; omega)).trans h.2.1, by rw [World.frozen?_setCell]; exact h.2.2⟩
theorem TwoAt.set2 {X : World} {M : Nat} {a b : Int} (h : TwoAt X M a b) (z : Int) : TwoAt (X.setCell ⟨M + 1, 0, none⟩ (.int .i64 z)) M a z :=
  ⟨⟨(World.cell?_setCell_far _ _ _ _ (by show M + 1 ≠ M; omega)).trans h.1.1, by rw [World.frozen?_setCell]; exact h.1.2⟩, World.cell?_setCell_same' _ _ _ (by rw [h.2.1]; rfl), by rw [World.frozen?_setCell]; exact h.2.2⟩
theorem all_end {w Z : World} {D D3 : Nat} (b : Bool) (hb : b = true) (tmps : Array Value) (ht : tmps.getD 4 undef = .pointer (some ⟨w.heap.size + 1, 0, none⟩)) (hc : Z.cell? ⟨w.heap.size + 1, 0, none⟩ = some (.bool false)) (h1 : Z.heap[D]? = some (.deferred (some []))) (h3 : Z.heap[D3]? = some (.deferred (some []))) (hne : D < D3) (hw : w.heap.size + 1 < D) (hW : Below w.heap.size w Z) :
    bodyPostM Fence.wide 30 Tryd.prog Tryd.f16 (TrueB w) Exit.ret { tmps := tmps, defers := [{ target := .collected D3, args := #[] }, { target := .collected D, args := #[] }] } (Z.setCell ⟨w.heap.size + 1, 0, none⟩ (.bool b)) := by
  subst hb
  have hk3 : (Z.setCell ⟨w.heap.size + 1, 0, none⟩ (.bool true)).heap[D3]? = some (.deferred (some [])) := ((grownBy_setCell' Z (w.heap.size + 1) (.bool true)).block D3 (Array.getElem?_eq_some_iff.1 h3).1 (fun e => by have := Option.some.inj e; omega)).trans h3
  have hk1 : (Z.setCell ⟨w.heap.size + 1, 0, none⟩ (.bool true)).heap[D]? = some (.deferred (some [])) := ((grownBy_setCell' Z (w.heap.size + 1) (.bool true)).block D (Array.getElem?_eq_some_iff.1 h1).1 (fun e => by have := Option.some.inj e; omega)).trans h1
  have hb0 : Below w.heap.size w (Z.setCell ⟨w.heap.size + 1, 0, none⟩ (.bool true)) := hW.setCell (p := ⟨w.heap.size + 1, 0, none⟩) (by show w.heap.size ≤ w.heap.size + 1; omega) _
  have hc0 : (Z.setCell ⟨w.heap.size + 1, 0, none⟩ (.bool true)).cell? ⟨w.heap.size + 1, 0, none⟩ = some (.bool true) := World.cell?_setCell_same' _ _ _ (by rw [hc]; rfl)
  generalize Z.setCell ⟨w.heap.size + 1, 0, none⟩ (.bool true) = Z2 at hk1 hk3 hb0 hc0 ⊢
  have hk12 : (Z2.putObj D3 (.deferred none)).heap[D]? = some (.deferred (some [])) := (World.putObj_heap_other (by omega)).trans hk1
  have hbe : Below w.heap.size w ((Z2.putObj D3 (.deferred none)).putObj D (.deferred none)) := (hb0.trans (belowK_b (w := w) (Nat.le_refl _) Z2 D3 _ (.deferred none) (by omega) hk3 rfl rfl)).trans (belowK_b (w := w) (Nat.le_refl _) _ D _ (.deferred none) (by omega) hk12 rfl rfl)
  have hce : ((Z2.putObj D3 (.deferred none)).putObj D (.deferred none)).cell? ⟨w.heap.size + 1, 0, none⟩ = some (.bool true) := cell_kept (cell_kept hc0 (grownBy_putObj' _ _ _) (fun r e => by cases e; exact ⟨_, hk3, rfl⟩)) (grownBy_putObj' _ _ _) (fun r e => by cases e; exact ⟨_, hk12, rfl⟩)
  refine ⟨by simp, .inl ⟨_, _, rfl, run_takeDeferred hk3, ?_⟩⟩
  refine ⟨by simp, .inl ⟨_, _, rfl, run_takeDeferred hk12, ?_⟩⟩
  exact ⟨_, results_cellB rfl _ _ ht hce, rfl, hbe⟩
set_option maxRecDepth 100000 in
set_option maxHeartbeats 4000000 in
theorem allW_in (n many : Int) (w : World) (hL : Laid w) :
    CallsIn Fence.wide 30 Tryd.prog 16 #[.int .i64 n, .int .i64 many] w (TrueB w) := by
  have HL := Lib.hid hL
  clear hL
  refine callsIn_of_wp_marks Tryd.func16 rfl trivial ?_ rfl
  simp only [Tryd.ntmps16, List.size_toArray, List.length_cons, List.length_nil, Nat.reduceAdd, Nat.reduceSub, Array.replicate_succ, Array.replicate_zero, List.push_toArray, List.append_toArray, List.nil_append, List.cons_append]
  gi_wp2
  refine ⟨trivial, ?_⟩
  obtain ⟨w0, hw0⟩ : ∃ w0, (w.alloc (.cells #[.int .i64 n] 3)).alloc (.cells #[.bool false] 4) = w0 := ⟨_, rfl⟩
  rw [hw0]
  have HB0 : Hid (Below w.heap.size w w0) := by rw [← hw0]; exact ((Below.refl _ w).alloc (Nat.le_refl _) _).alloc (by simp) _
  have hs0 : w0.heap.size = w.heap.size + 1 + 1 := by rw [← hw0]; simp
  have HN0 : Hid (w0.cell? ⟨w.heap.size, 0, none⟩ = some (.int .i64 n)) := by rw [← hw0]; exact cellAlloc _ (cellNew w _ _ 0 _ rfl)
  have HR0 : Hid (w0.cell? ⟨w.heap.size + 1, 0, none⟩ = some (.bool false) ∧ w0.frozen? ⟨w.heap.size + 1, 0, none⟩ = false) := by
    rw [← hw0]
    refine ⟨cellNew3 (by simp) rfl, ?_⟩
    have h5 := (Boxed.new (w.alloc (.cells #[.int .i64 n] 3)) 4 (.bool false)).frozen
    rw [World.size_alloc] at h5
    exact h5
  clear hw0
  refine (callsIn_wide.2 (awake_any w0 (HL.out.below HB0.out))).mono ?_
  rintro e w1 ⟨rfl, hb1⟩
  have HB1 := Lib.hid hb1
  have hn1 := cell_under HN0.out hb1
  clear hb1
  gi_wp2
  refine ⟨trivial, ?_⟩
  refine (all_in Fence.wide 29 trivial rfl _ _).mono ?_
  rintro e w2 ⟨rfl, rfl⟩
  have q1 := eql_funcC
  have hn2 := cellAlloc (.cells #[.int .i64 n] 3) hn1
  gi_wp2
  clear q1 hn1 hn2
  obtain ⟨V, hV⟩ : ∃ V, w1.alloc (.cells #[.int .i64 n] 3) = V := ⟨_, rfl⟩
  rw [hV]
  obtain ⟨Nb, hNb⟩ : ∃ Nb, w1.heap.size = Nb := ⟨_, rfl⟩
  rw [hNb]
  obtain ⟨M, hM⟩ : ∃ M, Nb + 1 = M := ⟨_, rfl⟩
  rw [hM]
  have hMV : V.heap.size = M := by rw [← hV, World.size_alloc, hNb, hM]
  have HWV : Hid (Below w.heap.size w V) := by rw [← hV]; exact bel2 (bel2 HB0.out HB1.out) ((Below.refl _ _).alloc (Nat.le_refl _) _)
  have HNV : Hid (V.cell? ⟨Nb, 0, none⟩ = some (.int .i64 n)) := by rw [← hV]; exact cellNew3 hNb.symm rfl
  have HXV : Hid (V.cell? ⟨w.heap.size, 0, none⟩ = some (.int .i64 n)) := by rw [← hV]; exact cellAlloc _ (cell_under HN0.out HB1.out)
  have HRV : Hid (V.cell? ⟨w.heap.size + 1, 0, none⟩ = some (.bool false) ∧ V.frozen? ⟨w.heap.size + 1, 0, none⟩ = false) := by
    have h1 := keep2 HR0.out HB1.out (by omega)
    rw [← hV]
    exact keep2 h1 ((Below.refl _ w1).alloc (Nat.le_refl _) _) (by have := HB1.out.size; omega)
  have hwM : w.heap.size + 3 ≤ M := by have := HB1.out.size; omega
  have HLV : Hid (Laid V) := HL.out.below HWV.out
  clear hV
  have hTw : TwoAt ((V.alloc (.cells #[.int .i64 (-1)] 3)).alloc (.cells #[.int .i64 0] 3)) M (-1) 0 := by
    refine ⟨⟨cellAlloc _ (cellNew3 hMV.symm rfl), ?_⟩, cellNew3 (by simp [hMV]) rfl, ?_⟩
    · rw [frozen?_alloc_cells]
      have h5 := (Boxed.new V 3 (.int .i64 (-1))).frozen
      rw [hMV] at h5
      exact h5
    · have h5 := (Boxed.new (V.alloc (.cells #[.int .i64 (-1)] 3)) 3 (.int .i64 0)).frozen
      rw [World.size_alloc, hMV] at h5
      exact h5
  have HVU : Hid (Below M V ((V.alloc (.cells #[.int .i64 (-1)] 3)).alloc (.cells #[.int .i64 0] 3))) := ((Below.refl _ _).alloc (by omega) _).alloc (by simp; omega) _
  have hsU : ((V.alloc (.cells #[.int .i64 (-1)] 3)).alloc (.cells #[.int .i64 0] 3)).heap.size = M + 2 := by simp [hMV]
  generalize (V.alloc (.cells #[.int .i64 (-1)] 3)).alloc (.cells #[.int .i64 0] 3) = U at hTw HVU hsU ⊢
  have HNU : Hid (U.cell? ⟨Nb, 0, none⟩ = some (.int .i64 n)) := cell_belowT HNV.out HVU.out (by omega)
  have HLU : Hid (Laid U) := HL.out.below (bel3 HWV.out HVU.out (by omega))
  refine range_ok (F := Fence.wide) rfl (by omega) (gf := 35) (lb := #[.pointer (some ⟨Nb, 0, none⟩)]) rfl trivial (enters_of Tryd.func35 (by kernel_rfl) rfl)
    (all_seq 29 (by omega) Nb n [M, M + 1] (by simp; omega) U HLU.out (by simp; omega) HNU.out)
    (fun h k => ⟨h.1.trans k.1, h.2.trans k.2⟩)
    (fun X o o' h hc => ⟨KeepC.putObj o' h hc, KeepsFrom.of_grownBy (grownBy_putObj' X _ o') (fun j e => by cases e; omega)⟩)
    (Below.refl _ _) (fun _ => rfl)
    (fun pre X => TwoAt X M ((lastp pre : Int) - 1) (pre.length : Int) ∧ Below M V X)
    (fun _ _ _ => False)
    (OwnFrom.and TwoAt.own (ownFrom_below (by omega) (by omega)))
    (fun _ _ _ _ _ hs _ _ => hs)
    ⟨by simpa [lastp] using hTw, HVU.out⟩
    (fun x a' X => a' = { tmps := #[.int .i64 n, .int .i64 many, .pointer (some ⟨w.heap.size, 0, none⟩), undef, .pointer (some ⟨w.heap.size + 1, 0, none⟩), .bool true, .func (.func 35) #[] #[.pointer (some ⟨Nb, 0, none⟩)], .pointer (some ⟨M, 0, none⟩), .pointer (some ⟨M + 1, 0, none⟩), .int .i64 (x.1 : Int), .string x.2, undef, undef, undef, undef, .bool true, .int .i64 n, .func (.func 35) #[] #[.pointer (some ⟨Nb, 0, none⟩)], .func (.func 35) #[] #[.pointer (some ⟨Nb, 0, none⟩)], .bool false, .func (.func 35) #[] #[.pointer (some ⟨Nb, 0, none⟩)], .int .i64 (x.1 : Int), .string x.2, undef, undef, undef, undef, undef, undef, undef, undef, undef, undef, undef, undef, undef, undef, undef, undef, undef, undef, undef, undef, undef, undef, undef, undef, undef, undef, undef, undef, undef, undef, undef, undef, undef, undef, undef, undef, undef, undef, undef, undef, undef, undef, undef, undef, undef, undef, undef, undef, undef, undef, undef, undef, undef, undef, undef, undef, undef, undef, undef, undef, undef, undef, undef, undef, undef, undef, undef], defers := [] })
    (fun x a' s A C row h hg hr => h) ?assign ?body ?done ?stop
  case assign =>
    rintro l2 pre x X K ⟨hc, hb⟩ hK
    simp only [encC] at hK ⊢
    gi_wp2
    exact hK _ _ (KeepsFrom.refl _ _) ⟨KeepC.refl _ _, KeepsFrom.refl _ _⟩ ⟨hc, hb⟩ rfl
  case body =>
    rintro l2 pre x a' X ⟨hc, hb⟩ rfl hok
    obtain ⟨k, hk, rfl, hx⟩ := hok
    have hcx : codeOf n k ≠ [] ∧ x = (k, ⟨(codeOf n k).toArray⟩) := by
      rcases toldK_cases n k with ⟨h0, h⟩ | ⟨h0, h⟩
      · rw [h] at hx; cases hx
      · rw [h] at hx
        exact ⟨h0, (List.cons.inj hx).1.symm⟩
    obtain ⟨hne, rfl⟩ := hcx
    have HLX : Hid (Laid X) := HL.out.below (bel3 HWV.out hb (by omega))
    have HXX : Hid (X.cell? ⟨w.heap.size, 0, none⟩ = some (.int .i64 n)) := cell_belowT HXV.out hb (by omega)
    have HLPK : Hid (lastp (selK n k) ≤ k) := lastp_le n k
    have HGAP : Hid (∀ j, lastp (selK n k) ≤ j → j < k → codeOf n j = []) := told_gap n k
    have HK := Lib.hid hk
    obtain ⟨z, hz⟩ : ∃ z : Int, (lastp (selK n k) : Int) - 1 = z := ⟨_, rfl⟩
    rw [hz] at hc
    have HZ := Lib.hid hz
    have HTW := Lib.hid hc
    have HBX := Lib.hid hb
    have HNE := Lib.hid hne
    have h48 := selK_len n k
    generalize hlk : (selK n k).length = lk at hc h48
    rw [hlk] at HTW
    have HLK := Lib.hid hlk
    obtain ⟨⟨hcM, hfM⟩, hcN, hfN⟩ := hc
    have hxw := HXX.out
    have hzk : ¬ ((k : Int) ≤ z) := by have := HLPK.out; omega
    have hcne : (codeOf n k).isEmpty = false := by cases h : codeOf n k with | nil => exact (hne h).elim | cons _ _ => rfl
    have hz1 : -1 ≤ z := by have := HZ.out; omega
    have hz2 : z ≤ 48 := by have := HLPK.out; omega
    clear hb hne hx hz hlk hTw
    gi_wp2
    refine ⟨trivial, ?_⟩
    refine (CallsIn.inRound l2 (callsIn_wide.2 (code_any n k X HLX.out))).mono ?_
    rintro e X1 ⟨rfl, hb1⟩
    obtain ⟨⟨hcM1, hfM1⟩, hcN1, hfN1⟩ := HTW.out.keep hb1
    have hxw1 := cell_under HXX.out hb1
    have HB1X := Lib.hid hb1
    clear hb1 hcM hfM hcN hfN hxw
    gi_wp2
    obtain ⟨lp, hlp⟩ : ∃ lp, lastp (selK n k) = lp := ⟨_, rfl⟩
    have HLP := Lib.hid hlp
    have hzl : z + 1 = (lp : Int) := by have := HZ.out; rw [hlp] at this; omega
    rw [hzl]
    clear hlp hzl
    gi_loopg [11] (k - lp) (fun r i ws => ∃ j : Nat, lp ≤ j ∧ j ≤ k ∧ r = k - j ∧ i = .int .i64 (j : Int) ∧ Below X1.heap.size X1 ws)
    case atStart => exact ⟨lp, Nat.le_refl _, by have := HLPK.out; rw [HLP.out] at this; exact this, rfl, rfl, Below.refl _ _⟩
    case round =>
      obtain ⟨j, hj1, hj2, hgk, rfl, hbw⟩ := hrel
      have HBW := Lib.hid hbw
      have HGK := Lib.hid hgk
      have hxw2 := cell_under hxw1 hbw
      have HTW2 : Hid (TwoAt wr M z lk) := (HTW.out.keep HB1X.out).keep hbw
      have HLW : Hid (Laid wr) := (HLX.out.below HB1X.out).below hbw
      clear hbw hgk
      have hk48 := HK.out
      by_cases hlt : j < k
      · have HE : Hid (codeOf n j = []) := HGAP.out j (by rw [HLP.out]; exact hj1) hlt
        gi_wp2
        refine ⟨trivial, ?_⟩
        refine (CallsIn.inRound l2 (callsIn_wide.2 (code_any n j wr HLW.out))).mono ?_
        rintro e X2 ⟨he, hb2⟩
        rw [HE.out] at he
        obtain rfl : e = .returned (.string ⟨#[]⟩) := he
        have HB2 := Lib.hid hb2
        clear hb2
        gi_wp2
        gi_roundg (k - (j + 1))
        case measure => have := HGK.out; omega
        case rel => exact ⟨j + 1, by omega, by omega, rfl, by simp, bel2 HBW.out HB2.out⟩
      · obtain rfl : j = k := by omega
        obtain ⟨⟨hcM2, hfM2⟩, hcN2, hfN2⟩ := HTW2.out
        have hcN3 : (wr.setCell ⟨M, 0, none⟩ (.int .i64 (j : Int))).cell? ⟨M + 1, 0, none⟩ = some (.int .i64 (lk : Int)) := (HTW2.out.set1 j).2.1
        have hfN3 : (wr.setCell ⟨M, 0, none⟩ (.int .i64 (j : Int))).frozen? ⟨M + 1, 0, none⟩ = false := (HTW2.out.set1 j).2.2
        clear hcM1 hfM1 hcN1 hfN1 hxw1 hxw2
        gi_wp2
        have hB0 : Below X.heap.size X wr := bel2 HB1X.out HBW.out
        refine ⟨?_, ⟨((below_keepC hB0).trans (KeepC.setCell (by simp) _)).trans (KeepC.setCell (by simp) _), ?_⟩, ?_, ?_⟩
        · exact (below_keepF hB0).trans (((KeepsOthers.setCell _ _ _).from _).trans ((KeepsOthers.setCell _ _ _).from _))
        · exact (below_keepF hB0).trans (((KeepsOthers.setCell _ _ _).from _).trans ((KeepsOthers.setCell _ _ _).from _))
        · have h1 := (HTW2.out.set1 j).set2 ((lk : Int) + 1)
          rw [lastp_snoc, List.length_append, HLK.out]
          simpa using h1
        · exact ((HBX.out.trans (hB0.mono (by have := World.block_lt_of_cell? X ⟨M, 0, none⟩ HTW.out.1.1; exact Nat.le_of_lt this))).setCell (p := ⟨M, 0, none⟩) (Nat.le_refl _) _).setCell (p := ⟨M + 1, 0, none⟩) (by show M ≤ M + 1; omega) _
  case done =>
    rintro D xs X hD rfl ⟨hc, hb⟩ hK
    have HTX0 := Lib.hid hc
    have HLX : Hid (Laid X) := HL.out.below (bel3 HWV.out hb (by omega))
    have HXX : Hid (X.cell? ⟨w.heap.size, 0, none⟩ = some (.int .i64 n)) := cell_belowT HXV.out hb (by omega)
    have HGAP : Hid (∀ j, lastp (selK n 48) ≤ j → j < 48 → codeOf n j = []) := told_gap n 48
    have hlp48 := lastp_le n 48
    have HBX := Lib.hid hb
    have HDX0 : Hid (X.heap[D]? = some (.deferred (some [])) ∧ D < X.heap.size ∧ M + 2 ≤ D) := ⟨hK, (Array.getElem?_eq_some_iff.1 hK).1, by omega⟩
    obtain ⟨lp, hlp⟩ : ∃ lp, lastp (selK n 48) = lp := ⟨_, rfl⟩
    obtain ⟨z, hz⟩ : ∃ z : Int, (lastp (selK n 48) : Int) - 1 = z := ⟨_, rfl⟩
    rw [hz] at hc
    rw [hz] at HTX0
    rw [hlp] at hz hlp48 HGAP
    have hzl : z + 1 = (lp : Int) := by omega
    have hz1 : -1 ≤ z := by omega
    have hz2 : z ≤ 48 := by omega
    have HGL0 := selK_len n 48
    obtain ⟨got, hgot⟩ : ∃ got, (selK n 48).length = got := ⟨_, rfl⟩
    rw [hgot] at hc HTX0 HGL0
    have HGOT : Hid ((selK n 48).length = got) := hgot
    have HGL : Hid (got ≤ 48) := HGL0
    have HLPZ := Lib.hid hlp48
    obtain ⟨⟨hcM, hfM⟩, hcN, hfN⟩ := hc
    have HZL := Lib.hid hzl
    clear hb hK hlp hz hgot HGL0 hcN hfN hlp48 hTw hzl
    gi_wp2
    rw [HZL.out]
    clear hcM hfM
    gi_loopg [12] (48 - lp) (fun r i ws => ∃ j : Nat, lp ≤ j ∧ j ≤ 48 ∧ r = 48 - j ∧ i = .int .i64 (j : Int) ∧ Below X.heap.size X ws)
    case atStart => exact ⟨lp, Nat.le_refl _, HLPZ.out, rfl, rfl, Below.refl _ _⟩
    case round =>
      obtain ⟨j, hj1, hj2, hgk, rfl, hbw⟩ := hrel
      have HBW := Lib.hid hbw
      have HGK := Lib.hid hgk
      have hxw := cell_under HXX.out hbw
      have HLW : Hid (Laid wr) := HLX.out.below hbw
      clear hbw hgk
      by_cases hlt : j < 48
      · have HE : Hid (codeOf n j = []) := HGAP.out j hj1 hlt
        gi_wp2
        refine ⟨trivial, ?_⟩
        refine (callsIn_wide.2 (code_any n j wr HLW.out)).mono ?_
        rintro e X2 ⟨he, hb2⟩
        rw [HE.out] at he
        obtain rfl : e = .returned (.string ⟨#[]⟩) := he
        have HB2 := Lib.hid hb2
        clear hb2
        gi_wp2
        gi_roundg (48 - (j + 1))
        case measure => have := HGK.out; omega
        case rel => exact ⟨j + 1, by omega, by omega, rfl, by simp, bel2 HBW.out HB2.out⟩
      · obtain rfl : j = 48 := by omega
        gi_wp2
        refine ⟨trivial, ?_⟩
        refine (callsIn_wide.2 (rest_any many 60 _ (by omega) (by omega))).mono ?_
        rintro e w2 ⟨rfl, hw2⟩
        subst w2
        obtain ⟨rn, hrn⟩ : ∃ rn : Nat, many % 60 = (rn : Int) := ⟨(many % 60).toNat, by omega⟩
        have h59 : rn ≤ 59 := by omega
        rw [hrn]
        clear hrn
        have HTX : Hid (TwoAt wr M z (got : Int)) := HTX0.out.keep HBW.out
        have HDX : Hid (wr.heap[D]? = some (.deferred (some [])) ∧ D < wr.heap.size ∧ M < D) := ⟨(HBW.out.block D HDX0.out.2.1).trans HDX0.out.1, Nat.lt_of_lt_of_le HDX0.out.2.1 HBW.out.size, by have := HDX0.out.2.2; omega⟩
        have HVW2 : Hid (Below M V wr) := HBX.out.trans (HBW.out.mono (by have := HDX0.out; omega))
        have HRX : Hid (wr.cell? ⟨w.heap.size + 1, 0, none⟩ = some (.bool false) ∧ wr.frozen? ⟨w.heap.size + 1, 0, none⟩ = false) := keep2 HRV.out HVW2.out (by omega)
        have HNX : Hid (wr.cell? ⟨w.heap.size, 0, none⟩ = some (.int .i64 n)) := hxw
        have HWX : Hid (Below w.heap.size w wr) := bel3 HWV.out HVW2.out (by omega)
        have HNbX : Hid (wr.cell? ⟨Nb, 0, none⟩ = some (.int .i64 n)) := cell_belowT HNV.out HVW2.out (by omega)
        obtain ⟨R, hR⟩ : ∃ R, wr.heap.size = R := ⟨_, rfl⟩
        have HMX : Hid (M + 2 ≤ R) := by have h1 := HDX.out; have h2 := HDX0.out; show _ ≤ _; omega
        have HRR := Lib.hid hR
        clear hxw
        gi_wp2
        have hGs : (wr.alloc (.cells #[.int .i64 (rn : Int)] 3)).heap.size = R + 1 := by simp [hR]
        have hrc : (wr.alloc (.cells #[.int .i64 (rn : Int)] 3)).cell? ⟨R, 0, none⟩ = some (.int .i64 (rn : Int)) := cellNew3 hR.symm rfl
        have HXA : Hid (Below R wr (wr.alloc (.cells #[.int .i64 (rn : Int)] 3))) := (Below.refl _ _).alloc (by omega) _
        generalize wr.alloc (.cells #[.int .i64 (rn : Int)] 3) = X2 at hGs hrc HXA ⊢
        have HWX2 : Hid (Below w.heap.size w X2) := bel3 HWX.out HXA.out (by have := HMX.out; omega)
        have hcn : (X2.alloc (.cells #[.int .i64 0] 3)).cell? ⟨R + 1, 0, none⟩ = some (.int .i64 0) := cellNew3 hGs.symm rfl
        have hfr : (X2.alloc (.cells #[.int .i64 0] 3)).frozen? ⟨R + 1, 0, none⟩ = false := by rw [← hGs]; exact (Boxed.new X2 3 (.int .i64 0)).frozen
        have hZs : (X2.alloc (.cells #[.int .i64 0] 3)).heap.size = R + 1 + 1 := by simp [hGs]
        have HST := Lib.hid (all_seq 29 (by omega) Nb n [R + 1] (by have := HMX.out; simp; omega) (X2.alloc (.cells #[.int .i64 0] 3)) (HL.out.below (HWX2.out.alloc (by have := HMX.out; omega) _)) (by simp; omega) (cellAlloc _ (cell_belowT HNbX.out HXA.out (by have := HMX.out; omega))))
        have HCF := Lib.hid (And.intro hcn hfr)
        have HRC := Lib.hid hrc
        clear hcn hfr hrc
        refine range_okskip (F := Fence.wide) rfl (by omega) (gf := 35) (lb := #[.pointer (some ⟨Nb, 0, none⟩)]) rfl trivial (enters_of Tryd.func35 (by kernel_rfl) rfl)
          HST.out
          (fun A => ⟨KeepC.refl _ _, KeepsFrom.refl _ _⟩) (fun h k => ⟨h.1.trans k.1, h.2.trans k.2⟩)
          (fun X o o' h hc => ⟨KeepC.putObj o' h hc, KeepsFrom.of_grownBy (grownBy_putObj' X _ o') (fun j e => by cases e; omega)⟩)
          (Below.refl _ _) (fun _ => rfl)
          (fun pre Z => ((Z.cell? ⟨R + 1, 0, none⟩ = some (.int .i64 (pre.length : Int)) ∧ Z.frozen? ⟨R + 1, 0, none⟩ = false) ∧ Below (R + 1) X2 Z) ∧ pre.length ≤ rn)
          (fun c pre Z => ((∃ q : Nat, (q = rn ∧ q ≤ got) ∧ Z.cell? ⟨R + 1, 0, none⟩ = some (.int .i64 (q : Int))) ∧ Below (R + 1) X2 Z) ∧ c = .exit 6)
          (OwnFrom.and (OwnFrom.and (Own.from (fun s A C row hs hg hr => ⟨cell_kept hs.1 hg hr, (frozen_kept hs.1 hg hr).trans hs.2⟩) _) (ownFrom_below (by omega) (by omega))) (ownFrom_pure _ _))
          (fun c => OwnFrom.and (OwnFrom.and (Own.from (fun s A C row ⟨q, h1, h2⟩ hg hr => ⟨q, h1, cell_kept h2 hg hr⟩) _) (ownFrom_below (by omega) (by omega))) (ownFrom_pure _ _))
          ⟨⟨HCF.out, (Below.refl _ _).alloc (by omega) _⟩, by simp⟩ ?body3 ?done3 ?stop3
        case body3 =>
          rintro l2 pre ⟨i, c⟩ Z ⟨⟨⟨hc, hf⟩, hb⟩, hpr⟩ hok
          have hltg := hok.lt
          rw [HGOT.out] at hltg
          have hrZ := cell_belowT HRC.out hb (by omega)
          have HBZ := Lib.hid hb
          clear hb hok
          simp only [encC]
          by_cases he : pre.length = rn
          · have h1 : ((pre.length : Int) == (rn : Int)) = true := by simp [he]
            gi_wp2
            exact ⟨KeepsFrom.refl _ _, ⟨KeepC.refl _ _, KeepsFrom.refl _ _⟩, ⟨⟨pre.length, ⟨he, by omega⟩, hc⟩, HBZ.out⟩, rfl⟩
          · have h1 : ((pre.length : Int) == (rn : Int)) = false := by simp; omega
            have hp9 : pre.length < rn := by omega
            gi_wp2
            refine ⟨(KeepsOthers.setCell _ _ _).from _, ⟨KeepC.setCell (by simp) _, (KeepsOthers.setCell _ _ _).from _⟩, ⟨⟨?_, by rw [World.frozen?_setCell]; exact hf⟩, HBZ.out.setCell (p := ⟨R + 1, 0, none⟩) (Nat.le_refl _) _⟩, by simp; omega⟩
            have := World.cell?_setCell_same' Z ⟨R + 1, 0, none⟩ (.int .i64 ((pre.length : Int) + 1)) (by rw [hc]; rfl)
            simpa using this
        case done3 =>
          rintro D3 xs Z hD3 rfl ⟨⟨⟨hc, hf⟩, hb3⟩, hpr⟩ hK3
          rw [HGOT.out] at hc hpr
          obtain ⟨q, hq⟩ : ∃ q, got = q := ⟨_, rfl⟩
          have hqm : min rn got = q := by omega
          have hc2 : Z.cell? ⟨R + 1, 0, none⟩ = some (.int .i64 (q : Int)) := by rw [← hq]; exact hc
          clear hc hq hpr
          have HEB := Lib.hid hb3
          have HEK := Lib.hid hK3
          have hqN := cell_belowT (cell_belowT HTX.out.2.1 HXA.out (by have := HMX.out; omega)) hb3 (by have := HMX.out; omega)
          have hqR := cell_belowT HRC.out hb3 (by omega)
          have hqn := cell_belowT (cell_belowT HNX.out HXA.out (by have := HMX.out; omega)) hb3 (by have := HMX.out; omega)
          obtain ⟨hq6, hf6⟩ := keep2 (keep2 HRX.out HXA.out (by have := HMX.out; omega)) hb3 (by have := HMX.out; omega)
          have HQ6Z := Lib.hid hq6
          have HZ1 : Hid ((Z.heap[D]? = some (.deferred (some [])) ∧ D < R) ∧ M < D ∧ R + 1 < D3) := by
            have h1 := HDX.out
            have h2 := HRR.out
            exact ⟨⟨(hb3.block D (by omega)).trans ((HXA.out.block D (by omega)).trans h1.1), by omega⟩, h1.2.2, by omega⟩
          have HWZ : Hid (Below w.heap.size w Z) := bel3 HWX2.out hb3 (by have h1 := HWX2.out.size; omega)
          clear hb3 hK3
          have hgn : (30 < got ∧ 1 ≤ n ∧ n ≤ 5) ∨ (got = 0 ∧ n < 1) ∨ (got = 0 ∧ 1 ≤ n ∧ 5 < n) := by
            have h1 := HGOT.out
            by_cases a1 : n < 1
            · have h2 := selK_none n (.inl a1) 48
              rw [h2] at h1
              simp at h1
              omega
            · by_cases a2 : 5 < n
              · have h2 := selK_none n (.inr a2) 48
                rw [h2] at h1
                simp at h1
                omega
              · have h2 := selK_many n (by omega) (by omega)
                omega
          have hm1 : min (rn : Int) (got : Int) = (q : Int) := by omega
          have h48 := HGL.out
          rcases hgn with ⟨g1, g2, g3⟩ | ⟨g1, g2⟩ | ⟨g1, g2, g3⟩
          all_goals
            gi_wp2
            all_goals exact all_end _ (by first | rfl | (simp; omega)) _ rfl HQ6Z.out HZ1.out.1.1 HEK.out (by have := HZ1.out; omega) (by have := HZ1.out; omega) HWZ.out
        case stop3 =>
          rintro D3 c' pre Z hD3 _ ⟨⟨⟨q, ⟨hq1, hq2⟩, hc2⟩, hb3⟩, rfl⟩ hK3
          have hqm : min rn got = q := by omega
          clear hq1 hq2
          have HEB := Lib.hid hb3
          have HEK := Lib.hid hK3
          have hqN := cell_belowT (cell_belowT HTX.out.2.1 HXA.out (by have := HMX.out; omega)) hb3 (by have := HMX.out; omega)
          have hqR := cell_belowT HRC.out hb3 (by omega)
          have hqn := cell_belowT (cell_belowT HNX.out HXA.out (by have := HMX.out; omega)) hb3 (by have := HMX.out; omega)
          obtain ⟨hq6, hf6⟩ := keep2 (keep2 HRX.out HXA.out (by have := HMX.out; omega)) hb3 (by have := HMX.out; omega)
          have HQ6Z := Lib.hid hq6
          have HZ1 : Hid ((Z.heap[D]? = some (.deferred (some [])) ∧ D < R) ∧ M < D ∧ R + 1 < D3) := by
            have h1 := HDX.out
            have h2 := HRR.out
            exact ⟨⟨(hb3.block D (by omega)).trans ((HXA.out.block D (by omega)).trans h1.1), by omega⟩, h1.2.2, by omega⟩
          have HWZ : Hid (Below w.heap.size w Z) := bel3 HWX2.out hb3 (by have h1 := HWX2.out.size; omega)
          clear hb3 hK3
          have hgn : (30 < got ∧ 1 ≤ n ∧ n ≤ 5) ∨ (got = 0 ∧ n < 1) ∨ (got = 0 ∧ 1 ≤ n ∧ 5 < n) := by
            have h1 := HGOT.out
            by_cases a1 : n < 1
            · have h2 := selK_none n (.inl a1) 48
              rw [h2] at h1
              simp at h1
              omega
            · by_cases a2 : 5 < n
              · have h2 := selK_none n (.inr a2) 48
                rw [h2] at h1
                simp at h1
                omega
              · have h2 := selK_many n (by omega) (by omega)
                omega
          have hm1 : min (rn : Int) (got : Int) = (q : Int) := by omega
          have h48 := HGL.out
          rcases hgn with ⟨g1, g2, g3⟩ | ⟨g1, g2⟩ | ⟨g1, g2, g3⟩
          all_goals
            gi_wp2
            all_goals exact all_end _ (by first | rfl | (simp; omega)) _ rfl HQ6Z.out HZ1.out.1.1 HEK.out (by have := HZ1.out; omega) (by have := HZ1.out; omega) HWZ.out
  case stop =>
    rintro D c' pre X hD _ h _
    exact h.elim
theorem allW_any (n many : Int) (w : World) (hL : Laid w) : Calls Tryd.prog 16 #[.int .i64 n, .int .i64 many] w fun e w' => e = .returned (.bool true) ∧ Below w.heap.size w w' := callsIn_wide.1 (allW_in n many w hL)
set_option maxHeartbeats 1000000 in
theorem codesAll_any (n many : Int) (w : World) (hL : Laid w) : Calls Tryd.prog 6 #[.int .i64 n, .int .i64 many] w fun e w' => e = .returned (.bool true) ∧ Below w.heap.size w w' := by
  have HL := Lib.hid hL
  clear hL
  have h8 : 0 ≤ n % 8 ∧ n % 8 < 8 := by omega
  go_enter Tryd.func6, Tryd.ntmps6
  go_wp2_with fail
  refine (allW_any n many w HL.out).mono ?_
  rintro e w1 ⟨rfl, hb1⟩
  go_wp2_with fail
  refine (rest_any n 8 _ (by omega) (by omega)).mono ?_
  rintro e w2 ⟨rfl, hw2⟩
  subst w2
  go_wp2_with fail
  refine (allW_any _ many _ (HL.out.below hb1)).mono ?_
  rintro e w3 ⟨rfl, hb3⟩
  go_wp2_with fail
  go_ret
  exact ⟨rfl, bel2 hb1 hb3⟩
end Go.Proofs.YtiakjbocnfkmnaaDoor
