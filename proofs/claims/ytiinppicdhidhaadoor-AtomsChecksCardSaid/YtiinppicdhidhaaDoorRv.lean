/-
  The reference's form and Make: the walks.
-/
import Derived.Test.YtiinppicdhidhaaDoorRx
set_option linter.unusedVariables false
set_option linter.unusedSimpArgs false
namespace Go.Proofs.YtiinppicdhidhaaDoor
open Go.RowKit
open Go.Proofs

def gotV (r : (Int × Int × Int) × Int) : Value := .agg #[.int .i64 r.1.1, .int .i64 r.1.2.1, .int .i64 r.1.2.2, .int .i64 r.2]
theorem mulI_pos {n p m : Int} (h : mulI n p = some m) (hn : 0 < n) (hp : 0 < p) : 0 < m := by
  unfold mulI at h
  split at h
  · cases h; exact Int.mul_pos hn hp
  · cases h
theorem blk4_told {W : World} {b : Nat} {x0 x1 x2 x3 : Value} {ty : TypeId} (h : W.heap[b]? = some (.cells #[x0, x1, x2, x3] ty (0, 0))) (u0 u1 u2 u3 : Value) :
    ((((W.setCell ⟨b, 0, none⟩ u0).setCell ⟨b, 1, none⟩ u1).setCell ⟨b, 2, none⟩ u2).setCell ⟨b, 3, none⟩ u3).heap[b]? = some (.cells #[u0, u1, u2, u3] ty (0, 0)) := by
  have h1 := heap_setCell_same W b 0 _ _ u0 h
  have h2 := heap_setCell_same _ b 1 _ _ u1 h1
  have h3 := heap_setCell_same _ b 2 _ _ u2 h2
  have h4 := heap_setCell_same _ b 3 _ _ u3 h3
  exact h4.trans rfl
set_option maxRecDepth 100000 in
set_option maxHeartbeats 4000000 in
theorem rform_any (s up down t0 t1 ten : Int) (w : World) (hs : s = 1 ∨ s = -1) (h1 : 0 < up) (h2 : up ≤ 9223372036854775807) (a0 : -64 ≤ t0) (b0 : t0 ≤ 64) (a1 : -64 ≤ t1) (b1 : t1 ≤ 64) :
    Calls Tryd.prog 44 #[splitV s ⟨up, down, t0, t1⟩, .int .i64 ten] w fun e w' => e = .returned (gotV (formR s ⟨up, down, t0, t1⟩ ten)) ∧ Below w.heap.size w w' := by
  unfold splitV
  obtain ⟨p, T, l, hp, hT, hl, hpT⟩ : ∃ (p : Int) (T : Nat) (l : Int), (p = 2 ∨ p = 5) ∧ T ≤ 128 ∧ (-64 ≤ l ∧ l ≤ 64) ∧ ((t0 < t1 ∧ p = 5 ∧ t1 = t0 + T ∧ l = t0) ∨ (¬ t0 < t1 ∧ p = 2 ∧ t0 = t1 + T ∧ l = t1)) := by
    by_cases hc : t0 < t1
    · exact ⟨5, (t1 - t0).toNat, t0, .inr rfl, by omega, by omega, .inl ⟨hc, rfl, by omega, rfl⟩⟩
    · exact ⟨2, (t0 - t1).toNat, t1, .inl rfl, by omega, by omega, .inr ⟨hc, rfl, by omega, rfl⟩⟩
  have hby : byR ⟨up, down, t0, t1⟩ = p := by
    unfold byR
    rcases hpT with ⟨hc, rfl, _⟩ | ⟨hc, rfl, _⟩
    · rw [if_pos hc]
    · rw [if_neg hc]
  have htm : timesR ⟨up, down, t0, t1⟩ = T := by
    unfold timesR
    rcases hpT with ⟨hc, _, h, _⟩ | ⟨hc, _, h, _⟩
    · rw [if_pos hc]; simp only; omega
    · rw [if_neg hc]; simp only; omega
  have hmin : min t0 t1 = l := by
    rcases hpT with ⟨hc, _, h, rfl⟩ | ⟨hc, _, h, rfl⟩ <;> omega
  have HY : Hid (∀ m, putP p T up = some m → formR s ⟨up, down, t0, t1⟩ ten = if ten < -2000 ∨ 2000 < ten ∨ ten + l < -1000 ∨ 1000 < ten + l then ((0, 0, 0), 10) else ((s * m, down, ten + l), 0)) := by
    show ∀ m, _
    intro m hm
    have := form_puts s hs ⟨up, down, t0, t1⟩ ten m (by rw [hby, htm]; exact hm)
    simp only [hmin] at this
    exact this
  have HN : Hid (putP p T up = none → formR s ⟨up, down, t0, t1⟩ ten = ((0, 0, 0), 10)) := by
    show _ → _
    intro hm
    exact form_over s hs ⟨up, down, t0, t1⟩ ten (by rw [hby, htm]; exact hm)
  obtain ⟨R, hR⟩ : ∃ R, formR s ⟨up, down, t0, t1⟩ ten = R := ⟨_, rfl⟩
  rw [hR] at HY HN ⊢
  clear hby htm hmin hR
  have hp1 : 2 ≤ p := by omega
  have hp2 : p ≤ 5 := by omega
  rcases hpT with ⟨hc, rfl, rfl, rfl⟩ | ⟨hc, rfl, rfl, rfl⟩
  all_goals
    first
      | have hcd : decide (l < l + (T : Int)) = true := decide_eq_true hc
      | have hcd : decide (l + (T : Int) < l) = false := decide_eq_false hc
    clear hp hc
  · go_enter Tryd.func44, Tryd.ntmps44
    go_wp2_with fail
    rw [show l + (T : Int) - l = (T : Int) by omega]
    go_loopw [8, 9] (fun n i wr => ∃ (k : Nat) (m : Int), k ≤ T ∧ i = .int .i64 (k : Int) ∧ n = .int .i64 m ∧ 0 < m ∧ m ≤ 9223372036854775807 ∧ putP 5 (T - k) m = putP 5 T up ∧ wr.heap[w.heap.size]? = some (.cells #[.int .i64 s, .int .i64 up, .int .i64 down, .int .i64 l, .int .i64 (l + (T : Int))] 92 (0, 0)) ∧ wr.heap[w.heap.size + 1]? = some (.cells #[.int .i64 0, .int .i64 0, .int .i64 0, .int .i64 0] 77 (0, 0)) ∧ Below w.heap.size w wr) (fun _ i _ => T - (intOf i).toNat)
    case atStart => exact ⟨0, up, by omega, rfl, rfl, h1, h2, rfl, (two_new w _ _ _ _).1, (two_new w _ _ _ _).2, ((Below.refl _ _).alloc (Nat.le_refl _) _).alloc (by simp) _⟩
    case round =>
      obtain ⟨k, m, hk, rfl, rfl, hm0, hm1, hput, hA, hB, hbw⟩ := hrel
      have HPUT := Lib.hid hput
      have HA := Lib.hid hA
      have HB := Lib.hid hB
      have HBW := Lib.hid hbw
      have hA2 := World.block_lt_of_cell? wr ⟨w.heap.size + 1, 0, none⟩ (cellB hB (j := 0) rfl)
      have hlen : w.heap.size + 1 < wr.heap.size := hA2
      clear hput hA hB hbw hA2
      by_cases hlt : k < T
      · have hltd : decide ((k : Int) < (T : Int)) = true := by simp; omega
        obtain ⟨d, hd⟩ : ∃ d, T - k = d + 1 := ⟨T - k - 1, by omega⟩
        have HD := Lib.hid hd
        clear hd
        cases hmm : mulI m 5 with
        | none =>
          have HR : Hid (R = ((0, 0, 0), 10)) := by
            show _ = _
            refine HN.out ?_
            rw [← HPUT.out, HD.out, putP, hmm]
          have HM := Lib.hid hmm
          clear hmm
          go_wp2_with fail
          refine (rmul_non m 5 _ (by omega) (by omega) (by omega) (by omega) (by omega)).mono ?_
          rintro e w1 ⟨rfl, hb1⟩
          rw [HM.out]
          simp only [numV]
          have HB1 := Lib.hid (blkUnder HB.out hb1)
          have W1 := Lib.hid (HBW.out.trans (hb1.mono HBW.out.size))
          obtain ⟨b0, b1, b2, b3⟩ := And.intro (cellB HB1.out (j := 0) rfl) (And.intro (cellB HB1.out (j := 1) rfl) (And.intro (cellB HB1.out (j := 2) rfl) (cellB HB1.out (j := 3) rfl)))
          obtain ⟨f0, f1, f2, f3⟩ := And.intro (freeB HB1.out (j := 0)) (And.intro (freeB HB1.out (j := 1)) (And.intro (freeB HB1.out (j := 2)) (freeB HB1.out (j := 3))))
          have hlen1 : w.heap.size + 1 < w1.heap.size := (Array.getElem?_eq_some_iff.1 HB1.out).1
          clear hb1
          go_wp2
          refine bodyPost_ret (v := .agg #[.int .i64 0, .int .i64 0, .int .i64 0, .int .i64 10]) (results_row Tryd.results44 _ _ (w.heap.size + 1) [_, _, _, _] _ rfl (fun j u hu => cellAlloc _ (rangeB (blk4_told HB1.out _ _ _ _) j u hu)) Tryd.underlying77 rfl (by kernel_rfl)) rfl ⟨by rw [HR.out]; rfl, ?_⟩
          refine Below.alloc ?_ (by simp only [World.size_setCell]; omega) _
          iterate 4 refine Below.setCell ?_ (Nat.le_succ _) _
          exact W1.out
        | some m' =>
          have hpos := mulI_pos hmm hm0 (by omega)
          have hbd := (mulI_bd hmm).2
          have HM := Lib.hid hmm
          clear hmm
          go_wp2_with fail
          refine (rmul_non m 5 _ (by omega) (by omega) (by omega) (by omega) (by omega)).mono ?_
          rintro e w1 ⟨rfl, hb1⟩
          rw [HM.out]
          simp only [numV]
          have HB1 := Lib.hid (blkUnder HB.out hb1)
          have HA1 := Lib.hid (blkUnder HA.out hb1)
          have W1 := Lib.hid (HBW.out.trans (hb1.mono HBW.out.size))
          clear hb1
          go_wp2
          go_roundw
          case rel => exact ⟨k + 1, m', by omega, by go_num, rfl, hpos, hbd, by rw [← HPUT.out, HD.out, putP, HM.out, show T - (k + 1) = d by have := HD.out; omega], blkAlloc _ HA1.out, blkAlloc _ HB1.out, W1.out.alloc W1.out.size _⟩
          case measure => simp [intOf]; omega
      · obtain rfl : k = T := by omega
        have hltd : decide ((k : Int) < (k : Int)) = false := by simp
        have HR := Lib.hid (HY.out m (by rw [← HPUT.out, Nat.sub_self]; rfl))
        obtain ⟨b0, b1, b2, b3⟩ := And.intro (cellB HB.out (j := 0) rfl) (And.intro (cellB HB.out (j := 1) rfl) (And.intro (cellB HB.out (j := 2) rfl) (cellB HB.out (j := 3) rfl)))
        obtain ⟨f0, f1, f2, f3⟩ := And.intro (freeB HB.out (j := 0)) (And.intro (freeB HB.out (j := 1)) (And.intro (freeB HB.out (j := 2)) (freeB HB.out (j := 3))))
        obtain ⟨c0, c1, c2⟩ := And.intro (cellB HA.out (j := 0) rfl) (And.intro (cellB HA.out (j := 1) rfl) (cellB HA.out (j := 2) rfl))
        have e1 : wrap64 (1 * m) = m := by unfold wrap64; omega
        have e2 : wrap64 (-1 * m) = -m := by unfold wrap64; omega
        by_cases hr : ten < -2000 ∨ 2000 < ten ∨ ten + l < -1000 ∨ 1000 < ten + l
        · have HR2 : Hid (R = ((0, 0, 0), 10)) := by show _ = _; rw [HR.out, if_pos hr]
          clear HR HY HN e1 e2
          by_cases r1 : ten < -2000
          · have d1 : decide (ten < -2000) = true := decide_eq_true r1
            go_wp2
            refine bodyPost_ret (v := .agg #[.int .i64 0, .int .i64 0, .int .i64 0, .int .i64 10]) (results_row Tryd.results44 _ _ (w.heap.size + 1) [_, _, _, _] _ rfl (rangeB (blk4_told HB.out _ _ _ _)) Tryd.underlying77 rfl (by kernel_rfl)) rfl ⟨by rw [HR2.out]; rfl, ?_⟩
            iterate 4 refine Below.setCell ?_ (Nat.le_succ _) _
            exact HBW.out
          by_cases r2 : 2000 < ten
          · have d1 : decide (ten < -2000) = false := decide_eq_false (by omega)
            have d2 : decide (2000 < ten) = true := decide_eq_true (by omega)
            go_wp2
            refine bodyPost_ret (v := .agg #[.int .i64 0, .int .i64 0, .int .i64 0, .int .i64 10]) (results_row Tryd.results44 _ _ (w.heap.size + 1) [_, _, _, _] _ rfl (rangeB (blk4_told HB.out _ _ _ _)) Tryd.underlying77 rfl (by kernel_rfl)) rfl ⟨by rw [HR2.out]; rfl, ?_⟩
            iterate 4 refine Below.setCell ?_ (Nat.le_succ _) _
            exact HBW.out
          have d1 : decide (ten < -2000) = false := decide_eq_false (by omega)
          have d2 : decide (2000 < ten) = false := decide_eq_false (by omega)
          obtain ⟨r3, r4⟩ : -2000 ≤ ten ∧ ten ≤ 2000 := by omega
          by_cases r5 : ten + l < -1000
          · have d3 : decide (ten + l < -1000) = true := decide_eq_true (by omega)
            go_wp2
            refine bodyPost_ret (v := .agg #[.int .i64 0, .int .i64 0, .int .i64 0, .int .i64 10]) (results_row Tryd.results44 _ _ (w.heap.size + 1) [_, _, _, _] _ rfl (rangeB (blk4_told HB.out _ _ _ _)) Tryd.underlying77 rfl (by kernel_rfl)) rfl ⟨by rw [HR2.out]; rfl, ?_⟩
            iterate 4 refine Below.setCell ?_ (Nat.le_succ _) _
            exact HBW.out
          · have d3 : decide (ten + l < -1000) = false := decide_eq_false (by omega)
            have d4 : decide (1000 < ten + l) = true := decide_eq_true (by omega)
            go_wp2
            refine bodyPost_ret (v := .agg #[.int .i64 0, .int .i64 0, .int .i64 0, .int .i64 10]) (results_row Tryd.results44 _ _ (w.heap.size + 1) [_, _, _, _] _ rfl (rangeB (blk4_told HB.out _ _ _ _)) Tryd.underlying77 rfl (by kernel_rfl)) rfl ⟨by rw [HR2.out]; rfl, ?_⟩
            iterate 4 refine Below.setCell ?_ (Nat.le_succ _) _
            exact HBW.out
        · have HR2 : Hid (R = ((s * m, down, ten + l), 0)) := by show _ = _; rw [HR.out, if_neg hr]
          clear HR HY HN
          obtain ⟨r1, r2, r3, r4⟩ : -2000 ≤ ten ∧ ten ≤ 2000 ∧ -1000 ≤ ten + l ∧ ten + l ≤ 1000 := by omega
          have d1 : decide (ten < -2000) = false := decide_eq_false (by omega)
          have d2 : decide (2000 < ten) = false := decide_eq_false (by omega)
          have d3 : decide (ten + l < -1000) = false := decide_eq_false (by omega)
          have d4 : decide (1000 < ten + l) = false := decide_eq_false (by omega)
          clear e1 e2
          rcases hs with rfl | rfl
          · go_wp2
            refine bodyPost_ret (v := .agg #[.int .i64 m, .int .i64 down, .int .i64 (ten + l), .int .i64 0]) (results_row Tryd.results44 _ _ (w.heap.size + 1) [_, _, _, _] _ rfl (rangeB (blk4_told HB.out _ _ _ _)) Tryd.underlying77 rfl (by kernel_rfl)) rfl ⟨by rw [HR2.out, Int.one_mul]; rfl, ?_⟩
            iterate 4 refine Below.setCell ?_ (Nat.le_succ _) _
            exact HBW.out
          · have e3 : (-1 : Int) * m = -m := by omega
            have HE3 := Lib.hid e3
            clear e3
            go_wp2
            refine bodyPost_ret (v := .agg #[.int .i64 (-m), .int .i64 down, .int .i64 (ten + l), .int .i64 0]) (results_row Tryd.results44 _ _ (w.heap.size + 1) [_, _, _, _] _ rfl (rangeB (blk4_told HB.out _ _ _ _)) Tryd.underlying77 rfl (by kernel_rfl)) rfl ⟨by rw [HR2.out, HE3.out]; rfl, ?_⟩
            iterate 4 refine Below.setCell ?_ (Nat.le_succ _) _
            exact HBW.out
  · go_enter Tryd.func44, Tryd.ntmps44
    go_wp2_with fail
    rw [show l + (T : Int) - l = (T : Int) by omega]
    go_loopw [8, 9] (fun n i wr => ∃ (k : Nat) (m : Int), k ≤ T ∧ i = .int .i64 (k : Int) ∧ n = .int .i64 m ∧ 0 < m ∧ m ≤ 9223372036854775807 ∧ putP 2 (T - k) m = putP 2 T up ∧ wr.heap[w.heap.size]? = some (.cells #[.int .i64 s, .int .i64 up, .int .i64 down, .int .i64 (l + (T : Int)), .int .i64 l] 92 (0, 0)) ∧ wr.heap[w.heap.size + 1]? = some (.cells #[.int .i64 0, .int .i64 0, .int .i64 0, .int .i64 0] 77 (0, 0)) ∧ Below w.heap.size w wr) (fun _ i _ => T - (intOf i).toNat)
    case atStart => exact ⟨0, up, by omega, rfl, rfl, h1, h2, rfl, (two_new w _ _ _ _).1, (two_new w _ _ _ _).2, ((Below.refl _ _).alloc (Nat.le_refl _) _).alloc (by simp) _⟩
    case round =>
      obtain ⟨k, m, hk, rfl, rfl, hm0, hm1, hput, hA, hB, hbw⟩ := hrel
      have HPUT := Lib.hid hput
      have HA := Lib.hid hA
      have HB := Lib.hid hB
      have HBW := Lib.hid hbw
      have hA2 := World.block_lt_of_cell? wr ⟨w.heap.size + 1, 0, none⟩ (cellB hB (j := 0) rfl)
      have hlen : w.heap.size + 1 < wr.heap.size := hA2
      clear hput hA hB hbw hA2
      by_cases hlt : k < T
      · have hltd : decide ((k : Int) < (T : Int)) = true := by simp; omega
        obtain ⟨d, hd⟩ : ∃ d, T - k = d + 1 := ⟨T - k - 1, by omega⟩
        have HD := Lib.hid hd
        clear hd
        cases hmm : mulI m 2 with
        | none =>
          have HR : Hid (R = ((0, 0, 0), 10)) := by
            show _ = _
            refine HN.out ?_
            rw [← HPUT.out, HD.out, putP, hmm]
          have HM := Lib.hid hmm
          clear hmm
          go_wp2_with fail
          refine (rmul_non m 2 _ (by omega) (by omega) (by omega) (by omega) (by omega)).mono ?_
          rintro e w1 ⟨rfl, hb1⟩
          rw [HM.out]
          simp only [numV]
          have HB1 := Lib.hid (blkUnder HB.out hb1)
          have W1 := Lib.hid (HBW.out.trans (hb1.mono HBW.out.size))
          obtain ⟨b0, b1, b2, b3⟩ := And.intro (cellB HB1.out (j := 0) rfl) (And.intro (cellB HB1.out (j := 1) rfl) (And.intro (cellB HB1.out (j := 2) rfl) (cellB HB1.out (j := 3) rfl)))
          obtain ⟨f0, f1, f2, f3⟩ := And.intro (freeB HB1.out (j := 0)) (And.intro (freeB HB1.out (j := 1)) (And.intro (freeB HB1.out (j := 2)) (freeB HB1.out (j := 3))))
          have hlen1 : w.heap.size + 1 < w1.heap.size := (Array.getElem?_eq_some_iff.1 HB1.out).1
          clear hb1
          go_wp2
          refine bodyPost_ret (v := .agg #[.int .i64 0, .int .i64 0, .int .i64 0, .int .i64 10]) (results_row Tryd.results44 _ _ (w.heap.size + 1) [_, _, _, _] _ rfl (fun j u hu => cellAlloc _ (rangeB (blk4_told HB1.out _ _ _ _) j u hu)) Tryd.underlying77 rfl (by kernel_rfl)) rfl ⟨by rw [HR.out]; rfl, ?_⟩
          refine Below.alloc ?_ (by simp only [World.size_setCell]; omega) _
          iterate 4 refine Below.setCell ?_ (Nat.le_succ _) _
          exact W1.out
        | some m' =>
          have hpos := mulI_pos hmm hm0 (by omega)
          have hbd := (mulI_bd hmm).2
          have HM := Lib.hid hmm
          clear hmm
          go_wp2_with fail
          refine (rmul_non m 2 _ (by omega) (by omega) (by omega) (by omega) (by omega)).mono ?_
          rintro e w1 ⟨rfl, hb1⟩
          rw [HM.out]
          simp only [numV]
          have HB1 := Lib.hid (blkUnder HB.out hb1)
          have HA1 := Lib.hid (blkUnder HA.out hb1)
          have W1 := Lib.hid (HBW.out.trans (hb1.mono HBW.out.size))
          clear hb1
          go_wp2
          go_roundw
          case rel => exact ⟨k + 1, m', by omega, by go_num, rfl, hpos, hbd, by rw [← HPUT.out, HD.out, putP, HM.out, show T - (k + 1) = d by have := HD.out; omega], blkAlloc _ HA1.out, blkAlloc _ HB1.out, W1.out.alloc W1.out.size _⟩
          case measure => simp [intOf]; omega
      · obtain rfl : k = T := by omega
        have hltd : decide ((k : Int) < (k : Int)) = false := by simp
        have HR := Lib.hid (HY.out m (by rw [← HPUT.out, Nat.sub_self]; rfl))
        obtain ⟨b0, b1, b2, b3⟩ := And.intro (cellB HB.out (j := 0) rfl) (And.intro (cellB HB.out (j := 1) rfl) (And.intro (cellB HB.out (j := 2) rfl) (cellB HB.out (j := 3) rfl)))
        obtain ⟨f0, f1, f2, f3⟩ := And.intro (freeB HB.out (j := 0)) (And.intro (freeB HB.out (j := 1)) (And.intro (freeB HB.out (j := 2)) (freeB HB.out (j := 3))))
        obtain ⟨c0, c1, c2⟩ := And.intro (cellB HA.out (j := 0) rfl) (And.intro (cellB HA.out (j := 1) rfl) (cellB HA.out (j := 2) rfl))
        have e1 : wrap64 (1 * m) = m := by unfold wrap64; omega
        have e2 : wrap64 (-1 * m) = -m := by unfold wrap64; omega
        by_cases hr : ten < -2000 ∨ 2000 < ten ∨ ten + l < -1000 ∨ 1000 < ten + l
        · have HR2 : Hid (R = ((0, 0, 0), 10)) := by show _ = _; rw [HR.out, if_pos hr]
          clear HR HY HN e1 e2
          by_cases r1 : ten < -2000
          · have d1 : decide (ten < -2000) = true := decide_eq_true r1
            go_wp2
            refine bodyPost_ret (v := .agg #[.int .i64 0, .int .i64 0, .int .i64 0, .int .i64 10]) (results_row Tryd.results44 _ _ (w.heap.size + 1) [_, _, _, _] _ rfl (rangeB (blk4_told HB.out _ _ _ _)) Tryd.underlying77 rfl (by kernel_rfl)) rfl ⟨by rw [HR2.out]; rfl, ?_⟩
            iterate 4 refine Below.setCell ?_ (Nat.le_succ _) _
            exact HBW.out
          by_cases r2 : 2000 < ten
          · have d1 : decide (ten < -2000) = false := decide_eq_false (by omega)
            have d2 : decide (2000 < ten) = true := decide_eq_true (by omega)
            go_wp2
            refine bodyPost_ret (v := .agg #[.int .i64 0, .int .i64 0, .int .i64 0, .int .i64 10]) (results_row Tryd.results44 _ _ (w.heap.size + 1) [_, _, _, _] _ rfl (rangeB (blk4_told HB.out _ _ _ _)) Tryd.underlying77 rfl (by kernel_rfl)) rfl ⟨by rw [HR2.out]; rfl, ?_⟩
            iterate 4 refine Below.setCell ?_ (Nat.le_succ _) _
            exact HBW.out
          have d1 : decide (ten < -2000) = false := decide_eq_false (by omega)
          have d2 : decide (2000 < ten) = false := decide_eq_false (by omega)
          obtain ⟨r3, r4⟩ : -2000 ≤ ten ∧ ten ≤ 2000 := by omega
          by_cases r5 : ten + l < -1000
          · have d3 : decide (ten + l < -1000) = true := decide_eq_true (by omega)
            go_wp2
            refine bodyPost_ret (v := .agg #[.int .i64 0, .int .i64 0, .int .i64 0, .int .i64 10]) (results_row Tryd.results44 _ _ (w.heap.size + 1) [_, _, _, _] _ rfl (rangeB (blk4_told HB.out _ _ _ _)) Tryd.underlying77 rfl (by kernel_rfl)) rfl ⟨by rw [HR2.out]; rfl, ?_⟩
            iterate 4 refine Below.setCell ?_ (Nat.le_succ _) _
            exact HBW.out
          · have d3 : decide (ten + l < -1000) = false := decide_eq_false (by omega)
            have d4 : decide (1000 < ten + l) = true := decide_eq_true (by omega)
            go_wp2
            refine bodyPost_ret (v := .agg #[.int .i64 0, .int .i64 0, .int .i64 0, .int .i64 10]) (results_row Tryd.results44 _ _ (w.heap.size + 1) [_, _, _, _] _ rfl (rangeB (blk4_told HB.out _ _ _ _)) Tryd.underlying77 rfl (by kernel_rfl)) rfl ⟨by rw [HR2.out]; rfl, ?_⟩
            iterate 4 refine Below.setCell ?_ (Nat.le_succ _) _
            exact HBW.out
        · have HR2 : Hid (R = ((s * m, down, ten + l), 0)) := by show _ = _; rw [HR.out, if_neg hr]
          clear HR HY HN
          obtain ⟨r1, r2, r3, r4⟩ : -2000 ≤ ten ∧ ten ≤ 2000 ∧ -1000 ≤ ten + l ∧ ten + l ≤ 1000 := by omega
          have d1 : decide (ten < -2000) = false := decide_eq_false (by omega)
          have d2 : decide (2000 < ten) = false := decide_eq_false (by omega)
          have d3 : decide (ten + l < -1000) = false := decide_eq_false (by omega)
          have d4 : decide (1000 < ten + l) = false := decide_eq_false (by omega)
          clear e1 e2
          rcases hs with rfl | rfl
          · go_wp2
            refine bodyPost_ret (v := .agg #[.int .i64 m, .int .i64 down, .int .i64 (ten + l), .int .i64 0]) (results_row Tryd.results44 _ _ (w.heap.size + 1) [_, _, _, _] _ rfl (rangeB (blk4_told HB.out _ _ _ _)) Tryd.underlying77 rfl (by kernel_rfl)) rfl ⟨by rw [HR2.out, Int.one_mul]; rfl, ?_⟩
            iterate 4 refine Below.setCell ?_ (Nat.le_succ _) _
            exact HBW.out
          · have e3 : (-1 : Int) * m = -m := by omega
            have HE3 := Lib.hid e3
            clear e3
            go_wp2
            refine bodyPost_ret (v := .agg #[.int .i64 (-m), .int .i64 down, .int .i64 (ten + l), .int .i64 0]) (results_row Tryd.results44 _ _ (w.heap.size + 1) [_, _, _, _] _ rfl (rangeB (blk4_told HB.out _ _ _ _)) Tryd.underlying77 rfl (by kernel_rfl)) rfl ⟨by rw [HR2.out, HE3.out]; rfl, ?_⟩
            iterate 4 refine Below.setCell ?_ (Nat.le_succ _) _
            exact HBW.out
/-! Make. -/
theorem loose_bd (num den : Int) (h0 : num ≠ 0) (h1 : -9223372036854775807 ≤ num) (h2 : num ≤ 9223372036854775807) (k0 : den ≠ 0) :
    (0 < (looseA num den).up ∧ (looseA num den).up ≤ 9223372036854775807) ∧ (-64 ≤ (looseA num den).t0 ∧ (looseA num den).t0 ≤ 64) ∧ -64 ≤ (looseA num den).t1 ∧ (looseA num den).t1 ≤ 64 := by
  have b := loosenI_bd (num.natAbs : Int) (den.natAbs : Int) (by omega) (by omega) (by omega) (by omega)
  refine ⟨⟨?_, b.1.2⟩, b.2⟩
  have hp := splitF_pos (p := 5) (by omega) 64 _ (splitF_pos (p := 2) (by omega) 64 (num.natAbs : Int) (by omega))
  have hq := splitF_pos (p := 5) (by omega) 64 _ (splitF_pos (p := 2) (by omega) 64 (den.natAbs : Int) (by omega))
  show 0 < Int.tdiv _ (gsign _ _)
  rw [gsign, if_neg (by omega)]
  generalize (splitF 5 64 (splitF 2 64 (num.natAbs : Int)).2).2 = a at hp ⊢
  generalize (splitF 5 64 (splitF 2 64 (den.natAbs : Int)).2).2 = c at hq ⊢
  have hd : (Int.gcd a c : Int) ∣ a := Int.gcd_dvd_left ..
  have hg : 0 < Int.gcd a c := Int.gcd_pos_of_ne_zero_left _ (by omega)
  have hg2 : (0 : Int) < (Int.gcd a c : Int) := by omega
  generalize (Int.gcd a c : Int) = g at hd hg2 ⊢
  obtain ⟨z, rfl⟩ := hd
  rw [Int.mul_tdiv_cancel_left z (by omega)]
  exact Int.pos_of_mul_pos_right hp hg2
theorem made_four (w : World) (a b c d : Int) : (w.alloc (.cells #[.int .i64 a, .int .i64 b, .int .i64 c, .int .i64 d] 77)).rangeAt w.heap.size 0 [.int .i64 a, .int .i64 b, .int .i64 c, .int .i64 d] := rangeB (heap_alloc_new w _)
set_option maxRecDepth 100000 in
set_option maxHeartbeats 4000000 in
theorem rmake_any (num den ten : Int) (w : World) (h2 : num ≤ 9223372036854775807) (k2 : den ≤ 9223372036854775807) :
    Calls Tryd.prog 34 #[.int .i64 num, .int .i64 den, .int .i64 ten] w fun e w' => e = .returned (gotV (makeI num den ten)) ∧ Below w.heap.size w w' := by
  have bel : ∀ c : Array Value, Below w.heap.size w (w.alloc (.cells c 77)) := fun c => (Below.refl _ _).alloc (Nat.le_refl _) _
  have BEL := Lib.hid bel
  clear bel
  by_cases hn : num < -9223372036854775807
  · have HO : Hid (makeI num den ten = ((0, 0, 0), 1)) := by show _ = _; rw [makeI, if_pos (.inl hn)]
    by_cases hd : den < -9223372036854775807
    all_goals
      go_enter Tryd.func34, Tryd.ntmps34
      go_wp2_with fail
      refine (rfits_any num _).mono ?_
      rintro e wx ⟨rfl, rfl⟩
      rw [fitsB, decide_eq_false (by omega)]
      go_wp2_with fail
      refine (rfits_any den _).mono ?_
      rintro e wx ⟨rfl, rfl⟩
      go_wp2_with fail
      refine bodyPost_ret (v := .agg #[.int .i64 0, .int .i64 0, .int .i64 0, .int .i64 1]) (results_row Tryd.results34 _ _ w.heap.size [_, _, _, _] _ rfl (made_four w _ _ _ _) Tryd.underlying77 rfl (by kernel_rfl)) rfl ⟨by rw [HO.out]; rfl, BEL.out _⟩
  · by_cases hd : den < -9223372036854775807
    · have HO : Hid (makeI num den ten = ((0, 0, 0), 1)) := by show _ = _; rw [makeI, if_pos (.inr hd)]
      go_enter Tryd.func34, Tryd.ntmps34
      go_wp2_with fail
      refine (rfits_yes num _ (by omega)).mono ?_
      rintro e wx ⟨rfl, rfl⟩
      go_wp2_with fail
      refine (rfits_any den _).mono ?_
      rintro e wx ⟨rfl, rfl⟩
      rw [fitsB, decide_eq_false (by omega)]
      go_wp2_with fail
      refine bodyPost_ret (v := .agg #[.int .i64 0, .int .i64 0, .int .i64 0, .int .i64 1]) (results_row Tryd.results34 _ _ w.heap.size [_, _, _, _] _ rfl (made_four w _ _ _ _) Tryd.underlying77 rfl (by kernel_rfl)) rfl ⟨by rw [HO.out]; rfl, BEL.out _⟩
    · by_cases hd0 : den = 0
      · have HO : Hid (makeI num den ten = ((0, 0, 0), 11)) := by show _ = _; rw [makeI, if_neg (by omega), if_pos hd0]
        subst hd0
        go_enter Tryd.func34, Tryd.ntmps34
        go_wp2_with fail
        refine (rfits_yes num _ (by omega)).mono ?_
        rintro e wx ⟨rfl, rfl⟩
        go_wp2_with fail
        refine (rfits_yes 0 _ (by omega)).mono ?_
        rintro e wx ⟨rfl, rfl⟩
        go_wp2_with fail
        refine bodyPost_ret (v := .agg #[.int .i64 0, .int .i64 0, .int .i64 0, .int .i64 11]) (results_row Tryd.results34 _ _ w.heap.size [_, _, _, _] _ rfl (made_four w _ _ _ _) Tryd.underlying77 rfl (by kernel_rfl)) rfl ⟨by rw [HO.out]; rfl, BEL.out _⟩
      · have hdb : (den == 0) = false := by simpa using hd0
        by_cases hn0 : num = 0
        · have HO : Hid (makeI num den ten = ((0, 1, 0), 0)) := by show _ = _; rw [makeI, if_neg (by omega), if_neg hd0, if_pos hn0]
          subst hn0
          go_enter Tryd.func34, Tryd.ntmps34
          go_wp2_with fail
          refine (rfits_yes 0 _ (by omega)).mono ?_
          rintro e wx ⟨rfl, rfl⟩
          go_wp2_with fail
          refine (rfits_yes den _ (by omega)).mono ?_
          rintro e wx ⟨rfl, rfl⟩
          go_wp2_with fail
          refine bodyPost_ret (v := .agg #[.int .i64 0, .int .i64 1, .int .i64 0, .int .i64 0]) (results_row Tryd.results34 _ _ w.heap.size [_, _, _, _] _ rfl (made_four w _ _ _ _) Tryd.underlying77 rfl (by kernel_rfl)) rfl ⟨by rw [HO.out]; rfl, BEL.out _⟩
        · have hnb : (num == 0) = false := by simpa using hn0
          have HO : Hid (makeI num den ten = formR (sgnI num * sgnI den) (looseA num den) ten) := make_ref num den ten (by omega) (by omega) hn0 hd0
          have hs : sgnI num * sgnI den = 1 ∨ sgnI num * sgnI den = -1 := by
            rcases sgn_one num with h | h <;> rcases sgn_one den with h' | h' <;> rw [h, h'] <;> simp
          have bd := loose_bd num den hn0 (by omega) h2 hd0
          have HF := Lib.hid (rof_any num den · hn0 (by omega) h2 hd0 (by omega) k2)
          obtain ⟨sg, hsg⟩ : ∃ sg, sgnI num * sgnI den = sg := ⟨_, rfl⟩
          obtain ⟨⟨up, down, t0, t1⟩, hL⟩ : ∃ L, looseA num den = L := ⟨_, rfl⟩
          rw [hsg, hL] at HO HF
          rw [hsg] at hs
          rw [hL] at bd
          simp only at bd
          have HS := Lib.hid hs
          obtain ⟨⟨p1, p2⟩, ⟨p3, p4⟩, p5, p6⟩ := bd
          clear hsg hL hs hn0 hd0
          go_enter Tryd.func34, Tryd.ntmps34
          go_wp2_with fail
          refine (rfits_yes num _ (by omega)).mono ?_
          rintro e wx ⟨rfl, rfl⟩
          go_wp2_with fail
          refine (rfits_yes den _ (by omega)).mono ?_
          rintro e wx ⟨rfl, rfl⟩
          go_wp2_with fail
          refine (HF.out _).mono ?_
          rintro e w1 ⟨rfl, hb1⟩
          have W1 := Lib.hid hb1
          clear hb1
          go_wp2_with fail
          refine (rform_any sg up down t0 t1 ten _ HS.out p1 p2 p3 p4 p5 p6).mono ?_
          rintro e w2 ⟨rfl, hb2⟩
          rw [← HO.out]
          have HB2 := Lib.hid (blkUnder (blkUnder (blkNew w _ _) W1.out) hb2)
          have W2 := Lib.hid ((BEL.out _).trans ((W1.out.mono (by simp)).trans (hb2.mono (by have := W1.out.size; simp at this; omega))))
          obtain ⟨⟨⟨f1, f2, f3⟩, fe⟩, hM⟩ : ∃ r, makeI num den ten = r := ⟨_, rfl⟩
          rw [hM]
          have HMK := Lib.hid hM
          simp only [gotV]
          obtain ⟨b0, b1, b2, b3⟩ := And.intro (cellB HB2.out (j := 0) rfl) (And.intro (cellB HB2.out (j := 1) rfl) (And.intro (cellB HB2.out (j := 2) rfl) (cellB HB2.out (j := 3) rfl)))
          obtain ⟨g0, g1, g2, g3⟩ := And.intro (freeB HB2.out (j := 0)) (And.intro (freeB HB2.out (j := 1)) (And.intro (freeB HB2.out (j := 2)) (freeB HB2.out (j := 3))))
          clear hb2 hM
          go_wp2_with fail
          refine bodyPost_ret (v := .agg #[.int .i64 f1, .int .i64 f2, .int .i64 f3, .int .i64 fe]) (results_row Tryd.results34 _ _ w.heap.size [_, _, _, _] _ rfl (rangeB (blk4_told HB2.out _ _ _ _)) Tryd.underlying77 rfl (by kernel_rfl)) rfl ⟨by rw [HMK.out]; rfl, ?_⟩
          iterate 4 refine Below.setCell ?_ (by exact Nat.le_refl _) _
          exact W2.out
end Go.Proofs.YtiinppicdhidhaaDoor
