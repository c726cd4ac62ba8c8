/-
  codes.All: the iterator over a notation's atoms; it ranges over the table's atoms.
-/
import Derived.Test.YtiakjbocnfkmnaaDoorEb
import Derived.Test.YtiakjbocnfkmnaaDoorSr
import Derived.Test.YtiakjbocnfkmnaaDoorL6
set_option linter.unusedVariables false
set_option linter.unusedSimpArgs false
namespace Go.Proofs.YtiakjbocnfkmnaaDoor
open Go.RowKit
open Go.Proofs
open Go.Shelf
attribute [local go_sem] Oper.semAt_some

/-- What is told of the row k, if anything. -/
def toldK (n : Int) (k : Nat) : List (Nat × ByteArray) := if codeOf n k = [] then [] else [(k, ⟨(codeOf n k).toArray⟩)]
def selK (n : Int) (k : Nat) : List (Nat × ByteArray) := (List.range k).flatMap (toldK n)
theorem selK_succ (n : Int) (k : Nat) : selK n (k + 1) = selK n k ++ toldK n k := by
  unfold selK
  rw [List.range_succ, List.flatMap_append]
  simp
def encC (x : Nat × ByteArray) : Array Value := #[.int .i64 (x.1 : Int), .string x.2]
def okC (n : Int) (pre : List (Nat × ByteArray)) (x : Nat × ByteArray) : Prop := ∃ k, k < 48 ∧ pre = selK n k ∧ toldK n k = [x]
set_option maxHeartbeats 1000000 in
theorem all_in (F : Fence) (m : Nat) (hf : F.fn 27) (hro : F.round = none) (n : Int) (w : World) :
    CallsIn F m Tryd.prog 27 #[.int .i64 n] w fun e w' =>
      e = .returned (.func (.func 35) #[] #[.pointer (some ⟨w.heap.size, 0, none⟩)]) ∧ w' = w.alloc (.cells #[.int .i64 n] 3) := by
  refine callsIn_of_wp Tryd.func27 rfl hf ?_ hro
  simp only [Tryd.ntmps27, List.size_toArray, List.length_cons, List.length_nil, Nat.reduceAdd, Nat.reduceSub, Array.replicate_succ, Array.replicate_zero, List.push_toArray, List.append_toArray, List.nil_append, List.cons_append]
  gi_wp2
  go_ret
  exact ⟨rfl, rfl⟩
theorem firstA_length (t : List AtomD) (k : Nat) : (firstA t k).length = k := by simp [firstA]
theorem KeepC.drew (bx : List Nat) (A : World) : KeepC bx A A.drew := ⟨Nat.le_refl _, fun _ _ _ h _ => h⟩
theorem cellNew3 {w : World} {cs : Array Value} {t : TypeId} {n j : Nat} {v : Value} (hn : n = w.heap.size) (h : cs[j]? = some v) : (w.alloc (.cells cs t)).cell? ⟨n, j, none⟩ = some v := by
  subst hn
  exact cellNew w cs t j v h
set_option maxRecDepth 100000 in
set_option maxHeartbeats 4000000 in
theorem all1_in (m : Nat) (hm : 5 ≤ m) (l Nb B0 : Nat) (n : Int) (bx : List Nat) (hNb : Nb ∉ bx)
    (J Jx : List (Nat × ByteArray) → World → Prop) (W : World) (hL : Laid W) (hB0 : B0 ≤ W.heap.size) (hbx : ∀ x ∈ bx, x < W.heap.size) (hJ : OwnFrom W.heap.size J) (hJx : OwnFrom W.heap.size Jx)
    (hY : ∀ pre x W1, J pre W1 → okC n pre x → YieldAt Fence.wide (m - 1) Tryd.prog l (encC x) W1 fun e W' =>
      (e = .returned (.bool true) ∧ J (pre ++ [x]) W' ∧ (KeepC bx W1 W' ∧ KeepsFrom B0 W1 W')) ∨ (e = .returned (.bool false) ∧ Jx (pre ++ [x]) W' ∧ KeepC bx W1 W' ∧ KeepsFrom B0 W1 W'))
    (hn : W.cell? ⟨Nb, 0, none⟩ = some (.int .i64 n)) (h0 : J [] W) :
    CallsIn Fence.wide m Tryd.prog 35 #[.func (.yield l) #[] #[], .pointer (some ⟨Nb, 0, none⟩)] W fun e W' => (∃ v, e = .returned v) ∧
      ((∃ ys, ys = selK n 48 ∧ J ys W') ∨ (∃ pre, (∃ k, k ≤ 48 ∧ pre = selK n k) ∧ Jx pre W')) := by
  have HL := Lib.hid hL
  have HJ := Lib.hid hJ
  have HJX := Lib.hid hJx
  have HY := Lib.hid hY
  have HBX := Lib.hid hbx
  have HN := Lib.hid hn
  clear hL hJ hJx hY hbx hn
  refine callsIn_of_wp_marks Tryd.func35 rfl trivial ?_ rfl
  simp only [Tryd.ntmps35, List.size_toArray, List.length_cons, List.length_nil, Nat.reduceAdd, Nat.reduceSub, Array.replicate_succ, Array.replicate_zero, List.push_toArray, List.append_toArray, List.nil_append, List.cons_append]
  gi_wp2
  refine ⟨trivial, fun _ => by omega, ?_⟩
  have HBA : Hid (Below W.heap.size W (W.alloc (.cells #[.func (.yield l) #[] #[]] 62))) := (Below.refl _ _).alloc (Nat.le_refl _) _
  have hcY : (W.alloc (.cells #[.func (.yield l) #[] #[]] 62)).cell? ⟨W.heap.size, 0, none⟩ = some (.func (.yield l) #[] #[]) := cellNew W _ _ 0 _ rfl
  have hsA : (W.alloc (.cells #[.func (.yield l) #[] #[]] 62)).heap.size = W.heap.size + 1 := by simp
  have HCY := Lib.hid hcY
  have HSA := Lib.hid hsA
  clear hcY hsA
  refine (callsIn_wide.2 (tab_ok _ (HL.out.below HBA.out))).mono ?_
  rintro e w1 ⟨g, c1, a2, c2, ss, rfl, hr, hg, ht, hb1⟩
  have HR := Lib.hid hr
  have HG := Lib.hid hg
  have HB1 := Lib.hid hb1
  clear hr hg ht hb1
  gi_wp2
  refine ⟨trivial, fun _ => by omega, ?_⟩
  refine (each_in Fence.wide (m - 1) trivial rfl _ _ _ _ _ _ _).mono ?_
  rintro e w' ⟨rfl, rfl⟩
  gi_wp2
  have HVW : Hid (Below W.heap.size W (w1.alloc (.cells #[.slice (some ⟨g, 0, none⟩) 48 c1, .slice a2 20 c2] 33))) := ((HBA.out.trans (HB1.out.mono (by have := HSA.out; omega))).alloc (by have := HB1.out.size; have := HSA.out; omega) _)
  have hsV : (w1.alloc (.cells #[.slice (some ⟨g, 0, none⟩) 48 c1, .slice a2 20 c2] 33)).heap.size = w1.heap.size + 1 := by simp
  have hcT : (w1.alloc (.cells #[.slice (some ⟨g, 0, none⟩) 48 c1, .slice a2 20 c2] 33)).cell? ⟨w1.heap.size, 0, none⟩ = some (.slice (some ⟨g, 0, none⟩) (tabD ss).length c1) := by rw [tabD_length]; exact cellNew w1 _ _ 0 _ rfl
  have HRV : Hid ((w1.alloc (.cells #[.slice (some ⟨g, 0, none⟩) 48 c1, .slice a2 20 c2] 33)).rangeAt g 0 (atomsL (tabD ss))) := fun j v hj => cellAlloc _ (HR.out j v hj)
  have HYV : Hid ((w1.alloc (.cells #[.slice (some ⟨g, 0, none⟩) 48 c1, .slice a2 20 c2] 33)).cell? ⟨W.heap.size, 0, none⟩ = some (.func (.yield l) #[] #[])) := cellAlloc _ (cell_under HCY.out HB1.out)
  have HNV : Hid ((w1.alloc (.cells #[.slice (some ⟨g, 0, none⟩) 48 c1, .slice a2 20 c2] 33)).cell? ⟨Nb, 0, none⟩ = some (.int .i64 n)) := cell_under HN.out HVW.out
  have hw1 : W.heap.size + 1 ≤ w1.heap.size := by have := HB1.out.size; have := HSA.out; omega
  have hg1 : g < w1.heap.size := by
    have h5 := range_lt HRV.out (by intro h; have h5 := congrArg List.length h; rw [atomsL_length, tabD_length] at h5; simp at h5)
    have h6 : g ≠ w1.heap.size := by
      intro e
      have h7 := HR.out 0 (.string ⟨(codeAt 0 0).toArray⟩) (by simp [tabD, atomsL, List.range_succ_eq_map, atomL, rowD])
      have h8 := World.block_lt_of_cell? w1 ⟨g, 0 + 0, none⟩ h7
      have h9 : g < w1.heap.size := h8
      omega
    omega
  have hgW : W.heap.size ≤ g := by have := HG.out; have := HSA.out; omega
  generalize w1.alloc (.cells #[.slice (some ⟨g, 0, none⟩) 48 c1, .slice a2 20 c2] 33) = V at HVW hsV hcT HRV HYV HNV ⊢
  generalize w1.heap.size = Tb at hsV hcT hw1 hg1 ⊢
  have nb : ∀ k, W.heap.size ≤ k → k ∉ bx := fun k hk h => by have := HBX.out k h; omega
  refine range_ok (F := Fence.wide) rfl (by omega) (gf := 38) (lb := #[.pointer (some ⟨Tb, 0, none⟩)]) rfl trivial (enters_of Tryd.func38 (by kernel_rfl) rfl)
    ((each_seq Fence.wide (m - 1) trivial rfl (by omega) Tb bx (some ⟨g, 0, none⟩) c1 (tabD ss) (by rw [tabD_length]; omega) V hcT (.inr ⟨g, 0, rfl, HRV.out, nb _ hgW, by omega⟩)).kp (Kp' := fun A C => KeepC bx A C ∧ KeepsFrom (V.heap.size + 2) A C) (fun _ _ h => h.1))
    (fun h k => ⟨h.1.trans k.1, h.2.trans k.2⟩)
    (fun X o o' h hc => ⟨KeepC.putObj o' h hc, KeepsFrom.of_grownBy (grownBy_putObj' X _ o') (fun j e => by cases e; omega)⟩)
    (Below.refl _ _) (fun _ => rfl)
    (fun pre X => J (selK n pre.length) X ∧ X.cell? ⟨W.heap.size, 0, none⟩ = some (.func (.yield l) #[] #[]) ∧ X.cell? ⟨Nb, 0, none⟩ = some (.int .i64 n))
    (fun c pre X => c = .ret ∧ Jx (selK n pre.length) X)
    (fun s A C row hs hg hr => ⟨HJ.out _ A C row hs.1 hg (fun r e => ⟨by have := (hr r e).1; have := HVW.out.size; omega, (hr r e).2⟩), cell_kept hs.2.1 hg (fun r e => (hr r e).2), cell_kept hs.2.2 hg (fun r e => (hr r e).2)⟩)
    (fun c s A C row hs hg hr => ⟨hs.1, HJX.out _ A C row hs.2 hg (fun r e => ⟨by have := (hr r e).1; have := HVW.out.size; omega, (hr r e).2⟩)⟩)
    ⟨HJ.out [] _ _ none h0 (grownBy_below (B := 0) HVW.out none) (fun r e => by cases e), HYV.out, HNV.out⟩
    (fun x a' X => ∃ bb, (W.heap.size ≤ bb ∧ ∀ (j : Nat) (v : Value), (atomL x.2)[j]? = some v → X.cell? ⟨bb, j, none⟩ = some v) ∧ a' = { tmps := #[.func (.yield l) #[] #[], .pointer (some ⟨Nb, 0, none⟩), .pointer (some ⟨W.heap.size, 0, none⟩), .int .i64 (x.1 : Int), .pointer (some ⟨bb, 0, none⟩), .agg #[.slice (some ⟨g, 0, none⟩) 48 c1, .slice a2 20 c2], .func (.func 38) #[] #[.pointer (some ⟨Tb, 0, none⟩)], .int .i64 (x.1 : Int), .agg (atomL x.2).toArray, undef, undef, undef, undef, undef, undef, undef, undef, undef, undef, undef, undef, undef, undef, undef, undef, undef, undef, undef, undef, undef], defers := [] })
    (fun x a' s A C row ⟨bb, ⟨h0, h1⟩, h2⟩ hg hr => ⟨bb, ⟨h0, fun j v hj => cell_kept (h1 j v hj) hg (fun r e => (hr r e).2)⟩, h2⟩) ?assign ?body ?done ?stop
  case assign =>
    rintro l2 pre ⟨i, ⟨x0, x1, x2, x3, x4, xm, xt, xb, xn, xd, xe, xa, xl, xc⟩⟩ X K ⟨hj, hcy, hcn⟩ hK
    simp only [encE, atomL] at hK ⊢
    have HXW : Hid (W.heap.size ≤ X.heap.size) := by have := World.block_lt_of_cell? X ⟨W.heap.size, 0, none⟩ hcy; exact Nat.le_of_lt this
    gi_wp2
    exact hK _ _ ((KeepsOthers.alloc _ _).from _) ⟨(KeepC.refl _ _).alloc _, (KeepsOthers.alloc _ _).from _⟩ ⟨HJ.out.alloc _ hj, cellAlloc _ hcy, cellAlloc _ hcn⟩ ⟨X.heap.size, ⟨HXW.out, fun j v hj => cellNew X _ _ j _ (by rw [← hj]; rcases j with _ | _ | _ | _ | _ | _ | _ | _ | _ | _ | _ | _ | j <;> rfl)⟩, rfl⟩
  case body =>
    rintro l2 pre x a' X ⟨hj, hcy, hcn⟩ ⟨b4, ⟨hb4, hcs⟩, rfl⟩ ⟨k, hk, rfl, rfl⟩
    have hk48 : k < 48 := by rw [tabD_length] at hk; exact hk
    rw [tabD_at ss hk48] at hcs ⊢
    rw [firstA_length] at hj
    have HP := Lib.hid (show (firstA (tabD ss) k ++ [(k, rowD ss k)]).length = k + 1 by rw [List.length_append, firstA_length]; rfl)
    have HSK := Lib.hid (selK_succ n k)
    have HJ0 := Lib.hid hj
    have HCY0 := Lib.hid hcy
    have HCN0 := Lib.hid hcn
    have HK48 := Lib.hid hk48
    have s0 := hcs 0 _ rfl
    have s1 := hcs 1 _ rfl
    have s2 := hcs 2 _ rfl
    have s3 := hcs 3 _ rfl
    have s4 := hcs 4 _ rfl
    simp only [rowD] at s0 s1 s2 s3 s4
    clear hcs hj hk hk48
    have hw0 : IntKind.i64.wrap 0 = 0 := by rfl
    have hw1' : IntKind.i64.wrap 1 = 1 := by rfl
    have hw2 : IntKind.i64.wrap 2 = 2 := by rfl
    have hw3 : IntKind.i64.wrap 3 = 3 := by rfl
    have hw4 : IntKind.i64.wrap 4 = 4 := by rfl
    by_cases hn : 1 ≤ n ∧ n ≤ 5
    · obtain ⟨h1, h5⟩ := hn
      have hco : codeOf n k = codeAt k (n.toNat - 1) := by
        have := HK48.out
        unfold codeOf
        rw [if_pos ⟨h1, h5, by omega, by omega⟩]
        rfl
      have hn5 : n = 1 ∨ n = 2 ∨ n = 3 ∨ n = 4 ∨ n = 5 := by omega
      clear h1 h5
      rcases hn5 with rfl | rfl | rfl | rfl | rfl
      · obtain ⟨c, hc⟩ : ∃ c, codeAt k 0 = c := ⟨_, rfl⟩
        have HCO : Hid (codeOf 1 k = c) := hco.trans hc
        rw [hc] at s0
        clear hco hc s1 s2 s3 s4
        by_cases he : c = []
        · subst he
          have HSE : Hid (selK 1 (k + 1) = selK 1 k) := by show _ = _; rw [HSK.out, toldK, if_pos HCO.out, List.append_nil]
          gi_wp2
          refine still_tail_round 18 (by kernel_rfl) (by kernel_rfl) (by kernel_rfl) ?_
          simp only [List.take_succ_cons, List.take_zero, List.drop_succ_cons, List.drop_zero]
          still_step
          still_call ((is_yes 1 _ (by omega) (by omega)).mono fun e w' h => ⟨h.1, h.2.symm⟩)
          repeat ((with_reducible refine wpStill_step (fun K hK => ?_)); go_simp; refine hK _ ?_; clear hK K)
          refine wpStill_nil ?_
          gi_wp2
          refine ⟨(fun f h => by cases h), ?_⟩
          gi_wp2
          exact ⟨(KeepsFrom.of_grownBy (row := none) (grownBy_below (B := 0) (Below.refl _ _).drew none) (fun r e => by cases e)), ⟨KeepC.drew _ _, (KeepsFrom.of_grownBy (row := none) (grownBy_below (B := 0) (Below.refl _ _).drew none) (fun r e => by cases e))⟩, by rw [HP.out, HSE.out]; exact HJ.out _ _ _ none HJ0.out (grownBy_below (B := 0) (Below.refl _ _).drew none) (fun r e => by cases e), HCY0.out, HCN0.out⟩
        · have hb : c.isEmpty = false := by cases c with | nil => exact (he rfl).elim | cons _ _ => rfl
          have HSE : Hid (selK 1 (k + 1) = selK 1 k ++ [(k, ⟨c.toArray⟩)]) := by show _ = _; rw [HSK.out, toldK, if_neg (by rw [HCO.out]; exact he), HCO.out]
          obtain ⟨fn, tmps, assign, body, hy, hR⟩ := yield_inRound (l' := l2) (yield_any (m' := m - 1 - 1 - 1) rfl (HY.out (selK 1 k) (k, ⟨c.toArray⟩) X.drew (HJ.out _ _ _ none HJ0.out (grownBy_below (B := 0) (Below.refl _ _).drew none) (fun r e => by cases e)) ⟨k, HK48.out, rfl, by rw [toldK, if_neg (by rw [HCO.out]; exact he), HCO.out]⟩))
          simp only [encC] at hy
          clear he
          gi_wp2
          refine still_tail_round 18 (by kernel_rfl) (by kernel_rfl) (by kernel_rfl) ?_
          simp only [List.take_succ_cons, List.take_zero, List.drop_succ_cons, List.drop_zero]
          still_step
          still_call ((is_yes 1 _ (by omega) (by omega)).mono fun e w' h => ⟨h.1, h.2.symm⟩)
          repeat ((with_reducible refine wpStill_step (fun K hK => ?_)); go_simp; refine hK _ ?_; clear hK K)
          refine wpStill_nil ?_
          gi_wp2
          refine ⟨fun _ => by omega, ?_⟩
          refine hR.mono ?_
          have hd1 : ∀ B, KeepsFrom B X X.drew := fun B => KeepsFrom.of_grownBy (row := none) (grownBy_below (B := 0) (Below.refl _ _).drew none) (fun r e => by cases e)
          rintro e X3 (⟨rfl, hj3, hk3, hf3⟩ | ⟨rfl, hj3, hk3, hf3⟩)
          · have HX3 := Lib.hid (And.intro hj3 (And.intro hk3 hf3))
            clear hj3 hk3 hf3 hR hy
            gi_wp2
            obtain ⟨hj3, hk3, hf3⟩ := HX3.out
            exact ⟨(hd1 _).trans (keepsMono hf3 (by have := HVW.out.size; omega)), ⟨(KeepC.drew _ _).trans hk3, (hd1 _).trans (keepsMono hf3 (by have := HVW.out.size; omega))⟩, by rw [HP.out, HSE.out]; exact hj3, hk3.cell (nb _ (Nat.le_refl _)) HCY0.out, hk3.cell hNb HCN0.out⟩
          · have HX3 := Lib.hid (And.intro hj3 (And.intro hk3 hf3))
            clear hj3 hk3 hf3 hR hy
            gi_wp2
            obtain ⟨hj3, hk3, hf3⟩ := HX3.out
            exact ⟨(hd1 _).trans (keepsMono hf3 (by have := HVW.out.size; omega)), ⟨(KeepC.drew _ _).trans hk3, (hd1 _).trans (keepsMono hf3 (by have := HVW.out.size; omega))⟩, rfl, by rw [HP.out, HSE.out]; exact hj3⟩
      · obtain ⟨c, hc⟩ : ∃ c, codeAt k 1 = c := ⟨_, rfl⟩
        have HCO : Hid (codeOf 2 k = c) := hco.trans hc
        rw [hc] at s1
        clear hco hc s0 s2 s3 s4
        by_cases he : c = []
        · subst he
          have HSE : Hid (selK 2 (k + 1) = selK 2 k) := by show _ = _; rw [HSK.out, toldK, if_pos HCO.out, List.append_nil]
          gi_wp2
          refine still_tail_round 18 (by kernel_rfl) (by kernel_rfl) (by kernel_rfl) ?_
          simp only [List.take_succ_cons, List.take_zero, List.drop_succ_cons, List.drop_zero]
          still_step
          still_call ((is_yes 2 _ (by omega) (by omega)).mono fun e w' h => ⟨h.1, h.2.symm⟩)
          repeat ((with_reducible refine wpStill_step (fun K hK => ?_)); go_simp; refine hK _ ?_; clear hK K)
          refine wpStill_nil ?_
          gi_wp2
          refine ⟨(fun f h => by cases h), ?_⟩
          gi_wp2
          exact ⟨(KeepsFrom.of_grownBy (row := none) (grownBy_below (B := 0) (Below.refl _ _).drew none) (fun r e => by cases e)), ⟨KeepC.drew _ _, (KeepsFrom.of_grownBy (row := none) (grownBy_below (B := 0) (Below.refl _ _).drew none) (fun r e => by cases e))⟩, by rw [HP.out, HSE.out]; exact HJ.out _ _ _ none HJ0.out (grownBy_below (B := 0) (Below.refl _ _).drew none) (fun r e => by cases e), HCY0.out, HCN0.out⟩
        · have hb : c.isEmpty = false := by cases c with | nil => exact (he rfl).elim | cons _ _ => rfl
          have HSE : Hid (selK 2 (k + 1) = selK 2 k ++ [(k, ⟨c.toArray⟩)]) := by show _ = _; rw [HSK.out, toldK, if_neg (by rw [HCO.out]; exact he), HCO.out]
          obtain ⟨fn, tmps, assign, body, hy, hR⟩ := yield_inRound (l' := l2) (yield_any (m' := m - 1 - 1 - 1) rfl (HY.out (selK 2 k) (k, ⟨c.toArray⟩) X.drew (HJ.out _ _ _ none HJ0.out (grownBy_below (B := 0) (Below.refl _ _).drew none) (fun r e => by cases e)) ⟨k, HK48.out, rfl, by rw [toldK, if_neg (by rw [HCO.out]; exact he), HCO.out]⟩))
          simp only [encC] at hy
          clear he
          gi_wp2
          refine still_tail_round 18 (by kernel_rfl) (by kernel_rfl) (by kernel_rfl) ?_
          simp only [List.take_succ_cons, List.take_zero, List.drop_succ_cons, List.drop_zero]
          still_step
          still_call ((is_yes 2 _ (by omega) (by omega)).mono fun e w' h => ⟨h.1, h.2.symm⟩)
          repeat ((with_reducible refine wpStill_step (fun K hK => ?_)); go_simp; refine hK _ ?_; clear hK K)
          refine wpStill_nil ?_
          gi_wp2
          refine ⟨fun _ => by omega, ?_⟩
          refine hR.mono ?_
          have hd1 : ∀ B, KeepsFrom B X X.drew := fun B => KeepsFrom.of_grownBy (row := none) (grownBy_below (B := 0) (Below.refl _ _).drew none) (fun r e => by cases e)
          rintro e X3 (⟨rfl, hj3, hk3, hf3⟩ | ⟨rfl, hj3, hk3, hf3⟩)
          · have HX3 := Lib.hid (And.intro hj3 (And.intro hk3 hf3))
            clear hj3 hk3 hf3 hR hy
            gi_wp2
            obtain ⟨hj3, hk3, hf3⟩ := HX3.out
            exact ⟨(hd1 _).trans (keepsMono hf3 (by have := HVW.out.size; omega)), ⟨(KeepC.drew _ _).trans hk3, (hd1 _).trans (keepsMono hf3 (by have := HVW.out.size; omega))⟩, by rw [HP.out, HSE.out]; exact hj3, hk3.cell (nb _ (Nat.le_refl _)) HCY0.out, hk3.cell hNb HCN0.out⟩
          · have HX3 := Lib.hid (And.intro hj3 (And.intro hk3 hf3))
            clear hj3 hk3 hf3 hR hy
            gi_wp2
            obtain ⟨hj3, hk3, hf3⟩ := HX3.out
            exact ⟨(hd1 _).trans (keepsMono hf3 (by have := HVW.out.size; omega)), ⟨(KeepC.drew _ _).trans hk3, (hd1 _).trans (keepsMono hf3 (by have := HVW.out.size; omega))⟩, rfl, by rw [HP.out, HSE.out]; exact hj3⟩
      · obtain ⟨c, hc⟩ : ∃ c, codeAt k 2 = c := ⟨_, rfl⟩
        have HCO : Hid (codeOf 3 k = c) := hco.trans hc
        rw [hc] at s2
        clear hco hc s0 s1 s3 s4
        by_cases he : c = []
        · subst he
          have HSE : Hid (selK 3 (k + 1) = selK 3 k) := by show _ = _; rw [HSK.out, toldK, if_pos HCO.out, List.append_nil]
          gi_wp2
          refine still_tail_round 18 (by kernel_rfl) (by kernel_rfl) (by kernel_rfl) ?_
          simp only [List.take_succ_cons, List.take_zero, List.drop_succ_cons, List.drop_zero]
          still_step
          still_call ((is_yes 3 _ (by omega) (by omega)).mono fun e w' h => ⟨h.1, h.2.symm⟩)
          repeat ((with_reducible refine wpStill_step (fun K hK => ?_)); go_simp; refine hK _ ?_; clear hK K)
          refine wpStill_nil ?_
          gi_wp2
          refine ⟨(fun f h => by cases h), ?_⟩
          gi_wp2
          exact ⟨(KeepsFrom.of_grownBy (row := none) (grownBy_below (B := 0) (Below.refl _ _).drew none) (fun r e => by cases e)), ⟨KeepC.drew _ _, (KeepsFrom.of_grownBy (row := none) (grownBy_below (B := 0) (Below.refl _ _).drew none) (fun r e => by cases e))⟩, by rw [HP.out, HSE.out]; exact HJ.out _ _ _ none HJ0.out (grownBy_below (B := 0) (Below.refl _ _).drew none) (fun r e => by cases e), HCY0.out, HCN0.out⟩
        · have hb : c.isEmpty = false := by cases c with | nil => exact (he rfl).elim | cons _ _ => rfl
          have HSE : Hid (selK 3 (k + 1) = selK 3 k ++ [(k, ⟨c.toArray⟩)]) := by show _ = _; rw [HSK.out, toldK, if_neg (by rw [HCO.out]; exact he), HCO.out]
          obtain ⟨fn, tmps, assign, body, hy, hR⟩ := yield_inRound (l' := l2) (yield_any (m' := m - 1 - 1 - 1) rfl (HY.out (selK 3 k) (k, ⟨c.toArray⟩) X.drew (HJ.out _ _ _ none HJ0.out (grownBy_below (B := 0) (Below.refl _ _).drew none) (fun r e => by cases e)) ⟨k, HK48.out, rfl, by rw [toldK, if_neg (by rw [HCO.out]; exact he), HCO.out]⟩))
          simp only [encC] at hy
          clear he
          gi_wp2
          refine still_tail_round 18 (by kernel_rfl) (by kernel_rfl) (by kernel_rfl) ?_
          simp only [List.take_succ_cons, List.take_zero, List.drop_succ_cons, List.drop_zero]
          still_step
          still_call ((is_yes 3 _ (by omega) (by omega)).mono fun e w' h => ⟨h.1, h.2.symm⟩)
          repeat ((with_reducible refine wpStill_step (fun K hK => ?_)); go_simp; refine hK _ ?_; clear hK K)
          refine wpStill_nil ?_
          gi_wp2
          refine ⟨fun _ => by omega, ?_⟩
          refine hR.mono ?_
          have hd1 : ∀ B, KeepsFrom B X X.drew := fun B => KeepsFrom.of_grownBy (row := none) (grownBy_below (B := 0) (Below.refl _ _).drew none) (fun r e => by cases e)
          rintro e X3 (⟨rfl, hj3, hk3, hf3⟩ | ⟨rfl, hj3, hk3, hf3⟩)
          · have HX3 := Lib.hid (And.intro hj3 (And.intro hk3 hf3))
            clear hj3 hk3 hf3 hR hy
            gi_wp2
            obtain ⟨hj3, hk3, hf3⟩ := HX3.out
            exact ⟨(hd1 _).trans (keepsMono hf3 (by have := HVW.out.size; omega)), ⟨(KeepC.drew _ _).trans hk3, (hd1 _).trans (keepsMono hf3 (by have := HVW.out.size; omega))⟩, by rw [HP.out, HSE.out]; exact hj3, hk3.cell (nb _ (Nat.le_refl _)) HCY0.out, hk3.cell hNb HCN0.out⟩
          · have HX3 := Lib.hid (And.intro hj3 (And.intro hk3 hf3))
            clear hj3 hk3 hf3 hR hy
            gi_wp2
            obtain ⟨hj3, hk3, hf3⟩ := HX3.out
            exact ⟨(hd1 _).trans (keepsMono hf3 (by have := HVW.out.size; omega)), ⟨(KeepC.drew _ _).trans hk3, (hd1 _).trans (keepsMono hf3 (by have := HVW.out.size; omega))⟩, rfl, by rw [HP.out, HSE.out]; exact hj3⟩
      · obtain ⟨c, hc⟩ : ∃ c, codeAt k 3 = c := ⟨_, rfl⟩
        have HCO : Hid (codeOf 4 k = c) := hco.trans hc
        rw [hc] at s3
        clear hco hc s0 s1 s2 s4
        by_cases he : c = []
        · subst he
          have HSE : Hid (selK 4 (k + 1) = selK 4 k) := by show _ = _; rw [HSK.out, toldK, if_pos HCO.out, List.append_nil]
          gi_wp2
          refine still_tail_round 18 (by kernel_rfl) (by kernel_rfl) (by kernel_rfl) ?_
          simp only [List.take_succ_cons, List.take_zero, List.drop_succ_cons, List.drop_zero]
          still_step
          still_call ((is_yes 4 _ (by omega) (by omega)).mono fun e w' h => ⟨h.1, h.2.symm⟩)
          repeat ((with_reducible refine wpStill_step (fun K hK => ?_)); go_simp; refine hK _ ?_; clear hK K)
          refine wpStill_nil ?_
          gi_wp2
          refine ⟨(fun f h => by cases h), ?_⟩
          gi_wp2
          exact ⟨(KeepsFrom.of_grownBy (row := none) (grownBy_below (B := 0) (Below.refl _ _).drew none) (fun r e => by cases e)), ⟨KeepC.drew _ _, (KeepsFrom.of_grownBy (row := none) (grownBy_below (B := 0) (Below.refl _ _).drew none) (fun r e => by cases e))⟩, by rw [HP.out, HSE.out]; exact HJ.out _ _ _ none HJ0.out (grownBy_below (B := 0) (Below.refl _ _).drew none) (fun r e => by cases e), HCY0.out, HCN0.out⟩
        · have hb : c.isEmpty = false := by cases c with | nil => exact (he rfl).elim | cons _ _ => rfl
          have HSE : Hid (selK 4 (k + 1) = selK 4 k ++ [(k, ⟨c.toArray⟩)]) := by show _ = _; rw [HSK.out, toldK, if_neg (by rw [HCO.out]; exact he), HCO.out]
          obtain ⟨fn, tmps, assign, body, hy, hR⟩ := yield_inRound (l' := l2) (yield_any (m' := m - 1 - 1 - 1) rfl (HY.out (selK 4 k) (k, ⟨c.toArray⟩) X.drew (HJ.out _ _ _ none HJ0.out (grownBy_below (B := 0) (Below.refl _ _).drew none) (fun r e => by cases e)) ⟨k, HK48.out, rfl, by rw [toldK, if_neg (by rw [HCO.out]; exact he), HCO.out]⟩))
          simp only [encC] at hy
          clear he
          gi_wp2
          refine still_tail_round 18 (by kernel_rfl) (by kernel_rfl) (by kernel_rfl) ?_
          simp only [List.take_succ_cons, List.take_zero, List.drop_succ_cons, List.drop_zero]
          still_step
          still_call ((is_yes 4 _ (by omega) (by omega)).mono fun e w' h => ⟨h.1, h.2.symm⟩)
          repeat ((with_reducible refine wpStill_step (fun K hK => ?_)); go_simp; refine hK _ ?_; clear hK K)
          refine wpStill_nil ?_
          gi_wp2
          refine ⟨fun _ => by omega, ?_⟩
          refine hR.mono ?_
          have hd1 : ∀ B, KeepsFrom B X X.drew := fun B => KeepsFrom.of_grownBy (row := none) (grownBy_below (B := 0) (Below.refl _ _).drew none) (fun r e => by cases e)
          rintro e X3 (⟨rfl, hj3, hk3, hf3⟩ | ⟨rfl, hj3, hk3, hf3⟩)
          · have HX3 := Lib.hid (And.intro hj3 (And.intro hk3 hf3))
            clear hj3 hk3 hf3 hR hy
            gi_wp2
            obtain ⟨hj3, hk3, hf3⟩ := HX3.out
            exact ⟨(hd1 _).trans (keepsMono hf3 (by have := HVW.out.size; omega)), ⟨(KeepC.drew _ _).trans hk3, (hd1 _).trans (keepsMono hf3 (by have := HVW.out.size; omega))⟩, by rw [HP.out, HSE.out]; exact hj3, hk3.cell (nb _ (Nat.le_refl _)) HCY0.out, hk3.cell hNb HCN0.out⟩
          · have HX3 := Lib.hid (And.intro hj3 (And.intro hk3 hf3))
            clear hj3 hk3 hf3 hR hy
            gi_wp2
            obtain ⟨hj3, hk3, hf3⟩ := HX3.out
            exact ⟨(hd1 _).trans (keepsMono hf3 (by have := HVW.out.size; omega)), ⟨(KeepC.drew _ _).trans hk3, (hd1 _).trans (keepsMono hf3 (by have := HVW.out.size; omega))⟩, rfl, by rw [HP.out, HSE.out]; exact hj3⟩
      · obtain ⟨c, hc⟩ : ∃ c, codeAt k 4 = c := ⟨_, rfl⟩
        have HCO : Hid (codeOf 5 k = c) := hco.trans hc
        rw [hc] at s4
        clear hco hc s0 s1 s2 s3
        by_cases he : c = []
        · subst he
          have HSE : Hid (selK 5 (k + 1) = selK 5 k) := by show _ = _; rw [HSK.out, toldK, if_pos HCO.out, List.append_nil]
          gi_wp2
          refine still_tail_round 18 (by kernel_rfl) (by kernel_rfl) (by kernel_rfl) ?_
          simp only [List.take_succ_cons, List.take_zero, List.drop_succ_cons, List.drop_zero]
          still_step
          still_call ((is_yes 5 _ (by omega) (by omega)).mono fun e w' h => ⟨h.1, h.2.symm⟩)
          repeat ((with_reducible refine wpStill_step (fun K hK => ?_)); go_simp; refine hK _ ?_; clear hK K)
          refine wpStill_nil ?_
          gi_wp2
          refine ⟨(fun f h => by cases h), ?_⟩
          gi_wp2
          exact ⟨(KeepsFrom.of_grownBy (row := none) (grownBy_below (B := 0) (Below.refl _ _).drew none) (fun r e => by cases e)), ⟨KeepC.drew _ _, (KeepsFrom.of_grownBy (row := none) (grownBy_below (B := 0) (Below.refl _ _).drew none) (fun r e => by cases e))⟩, by rw [HP.out, HSE.out]; exact HJ.out _ _ _ none HJ0.out (grownBy_below (B := 0) (Below.refl _ _).drew none) (fun r e => by cases e), HCY0.out, HCN0.out⟩
        · have hb : c.isEmpty = false := by cases c with | nil => exact (he rfl).elim | cons _ _ => rfl
          have HSE : Hid (selK 5 (k + 1) = selK 5 k ++ [(k, ⟨c.toArray⟩)]) := by show _ = _; rw [HSK.out, toldK, if_neg (by rw [HCO.out]; exact he), HCO.out]
          obtain ⟨fn, tmps, assign, body, hy, hR⟩ := yield_inRound (l' := l2) (yield_any (m' := m - 1 - 1 - 1) rfl (HY.out (selK 5 k) (k, ⟨c.toArray⟩) X.drew (HJ.out _ _ _ none HJ0.out (grownBy_below (B := 0) (Below.refl _ _).drew none) (fun r e => by cases e)) ⟨k, HK48.out, rfl, by rw [toldK, if_neg (by rw [HCO.out]; exact he), HCO.out]⟩))
          simp only [encC] at hy
          clear he
          gi_wp2
          refine still_tail_round 18 (by kernel_rfl) (by kernel_rfl) (by kernel_rfl) ?_
          simp only [List.take_succ_cons, List.take_zero, List.drop_succ_cons, List.drop_zero]
          still_step
          still_call ((is_yes 5 _ (by omega) (by omega)).mono fun e w' h => ⟨h.1, h.2.symm⟩)
          repeat ((with_reducible refine wpStill_step (fun K hK => ?_)); go_simp; refine hK _ ?_; clear hK K)
          refine wpStill_nil ?_
          gi_wp2
          refine ⟨fun _ => by omega, ?_⟩
          refine hR.mono ?_
          have hd1 : ∀ B, KeepsFrom B X X.drew := fun B => KeepsFrom.of_grownBy (row := none) (grownBy_below (B := 0) (Below.refl _ _).drew none) (fun r e => by cases e)
          rintro e X3 (⟨rfl, hj3, hk3, hf3⟩ | ⟨rfl, hj3, hk3, hf3⟩)
          · have HX3 := Lib.hid (And.intro hj3 (And.intro hk3 hf3))
            clear hj3 hk3 hf3 hR hy
            gi_wp2
            obtain ⟨hj3, hk3, hf3⟩ := HX3.out
            exact ⟨(hd1 _).trans (keepsMono hf3 (by have := HVW.out.size; omega)), ⟨(KeepC.drew _ _).trans hk3, (hd1 _).trans (keepsMono hf3 (by have := HVW.out.size; omega))⟩, by rw [HP.out, HSE.out]; exact hj3, hk3.cell (nb _ (Nat.le_refl _)) HCY0.out, hk3.cell hNb HCN0.out⟩
          · have HX3 := Lib.hid (And.intro hj3 (And.intro hk3 hf3))
            clear hj3 hk3 hf3 hR hy
            gi_wp2
            obtain ⟨hj3, hk3, hf3⟩ := HX3.out
            exact ⟨(hd1 _).trans (keepsMono hf3 (by have := HVW.out.size; omega)), ⟨(KeepC.drew _ _).trans hk3, (hd1 _).trans (keepsMono hf3 (by have := HVW.out.size; omega))⟩, rfl, by rw [HP.out, HSE.out]; exact hj3⟩
    · have hno : n < 1 ∨ 5 < n := by omega
      have HSE : Hid (selK n (k + 1) = selK n k) := by show _ = _; rw [HSK.out, toldK, if_pos (by unfold codeOf; rw [if_neg (by omega)]), List.append_nil]
      clear s0 s1 s2 s3 s4 hn
      gi_wp2
      refine still_tail_round 18 (by kernel_rfl) (by kernel_rfl) (by kernel_rfl) ?_
      simp only [List.take_succ_cons, List.take_zero, List.drop_succ_cons, List.drop_zero]
      still_step
      still_call ((is_no n _ hno).mono fun e w' h => ⟨h.1, h.2.symm⟩)
      repeat ((with_reducible refine wpStill_step (fun K hK => ?_)); go_simp; refine hK _ ?_; clear hK K)
      refine wpStill_nil ?_
      gi_wp2
      refine ⟨(fun f h => by cases h), ?_⟩
      gi_wp2
      exact ⟨(KeepsFrom.of_grownBy (row := none) (grownBy_below (B := 0) (Below.refl _ _).drew none) (fun r e => by cases e)), ⟨KeepC.drew _ _, (KeepsFrom.of_grownBy (row := none) (grownBy_below (B := 0) (Below.refl _ _).drew none) (fun r e => by cases e))⟩, by rw [HP.out, HSE.out]; exact HJ.out _ _ _ none HJ0.out (grownBy_below (B := 0) (Below.refl _ _).drew none) (fun r e => by cases e), HCY0.out, HCN0.out⟩
  case done =>
    rintro D xs X hD rfl ⟨hj, hcy⟩ hK
    gi_wp2
    refine ⟨by simp, .inl ⟨_, _, rfl, run_takeDeferred hK, ?_⟩⟩
    refine ⟨_, results_none rfl _ _ _, ⟨_, rfl⟩, .inl ⟨_, ?_, HJ.out.putObj _ hj (by have := HVW.out.size; omega) hK rfl⟩⟩
    simp [firstA, tabD_length]
  case stop =>
    rintro D c pre X hD ⟨k, hk, rfl⟩ ⟨rfl, hj⟩ hK
    gi_wp2
    refine ⟨by simp, .inl ⟨_, _, rfl, run_takeDeferred hK, ?_⟩⟩
    refine ⟨_, results_none rfl _ _ _, ⟨_, rfl⟩, .inr ⟨_, ⟨k, by rw [tabD_length] at hk; exact hk, ?_⟩, HJX.out.putObj _ hj (by have := HVW.out.size; omega) hK rfl⟩⟩
    simp [firstA]
/-- The contract of the iterator over a notation's atoms. -/
theorem all_seq (m : Nat) (hm : 5 ≤ m) (Nb : Nat) (n : Int) (bx : List Nat) (hNb : Nb ∉ bx) (w : World) (hL : Laid w) (hbx : ∀ x ∈ bx, x < w.heap.size) (hn : w.cell? ⟨Nb, 0, none⟩ = some (.int .i64 n)) :
    SeqO Fence.wide m Tryd.prog 35 #[.pointer (some ⟨Nb, 0, none⟩)] encC (fun A C => KeepC bx A C ∧ KeepsFrom (w.heap.size + 2) A C) (fun ys => ys = selK n 48) (fun pre => ∃ k, k ≤ 48 ∧ pre = selK n k) (okC n) w := fun l J Jx W hW hz hJ hJx hY h0 =>
  all1_in m hm l Nb (w.heap.size + 2) n bx hNb J Jx W (hL.below hW) hz (fun x hx => by have := hbx x hx; omega) hJ hJx hY (cell_under hn hW) h0
end Go.Proofs.YtiakjbocnfkmnaaDoor
