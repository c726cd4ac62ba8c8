/-
  frac: the contracts of form, Make.
-/
import Derived.Test.YtiinppicdhidhaaDoorFr
set_option linter.unusedVariables false
set_option linter.unusedSimpArgs false
namespace Go.Proofs.YtiinppicdhidhaaDoor
open Go.RowKit
open Go.Proofs

/-- n, times p, k times; false: it does not fit. -/
def putI (p : Int) : Nat → Int → Bool → Int × Bool
  | 0, n, o => (n, o)
  | _ + 1, n, false => (n, false)
  | k + 1, n, true => match mulI n p with
    | some m => putI p k m true
    | none => (n, false)
theorem putI_false (p : Int) (k : Nat) (n : Int) : putI p k n false = (n, false) := by cases k <;> rfl
theorem mulI_bd {a b m : Int} (h : mulI a b = some m) : -9223372036854775807 ≤ m ∧ m ≤ 9223372036854775807 := by
  unfold mulI at h
  split at h
  · cases h; omega
  · cases h
theorem putI_bd (p : Int) : ∀ (k : Nat) (n : Int) (o : Bool), -9223372036854775807 ≤ n → n ≤ 9223372036854775807 → -9223372036854775807 ≤ (putI p k n o).1 ∧ (putI p k n o).1 ≤ 9223372036854775807
  | 0, n, o, h1, h2 => ⟨h1, h2⟩
  | k + 1, n, false, h1, h2 => ⟨h1, h2⟩
  | k + 1, n, true, h1, h2 => by
    rw [putI]
    cases hm : mulI n p with
    | none => exact ⟨h1, h2⟩
    | some m => exact putI_bd p k m true (mulI_bd hm).1 (mulI_bd hm).2
/-- The boxes of n and ok. -/
def BoxNO (X : World) (N : Nat) (n : Int) (o : Bool) : Prop := (X.cell? ⟨N, 0, none⟩ = some (.int .i64 n) ∧ X.frozen? ⟨N, 0, none⟩ = false) ∧ X.cell? ⟨N + 1, 0, none⟩ = some (.bool o) ∧ X.frozen? ⟨N + 1, 0, none⟩ = false
theorem BoxNO.alloc {X : World} {N : Nat} {n : Int} {o : Bool} (h : BoxNO X N n o) (c : Array Value) (t : TypeId) : BoxNO (X.alloc (.cells c t)) N n o :=
  ⟨⟨cellAlloc _ h.1.1, by rw [frozen?_alloc_cells]; exact h.1.2⟩, cellAlloc _ h.2.1, by rw [frozen?_alloc_cells]; exact h.2.2⟩
theorem BoxNO.set1 {X : World} {N : Nat} {n : Int} {o : Bool} (h : BoxNO X N n o) (z : Int) : BoxNO (X.setCell ⟨N, 0, none⟩ (.int .i64 z)) N z o :=
  ⟨⟨World.cell?_setCell_same' _ _ _ (by rw [h.1.1]; rfl), by rw [World.frozen?_setCell]; exact h.1.2⟩, (World.cell?_setCell_far _ _ _ _ (by show N ≠ N + 1; omega)).trans h.2.1, by rw [World.frozen?_setCell]; exact h.2.2⟩
theorem BoxNO.set2 {X : World} {N : Nat} {n : Int} {o : Bool} (h : BoxNO X N n o) (z : Bool) : BoxNO (X.setCell ⟨N + 1, 0, none⟩ (.bool z)) N n z :=
  ⟨⟨(World.cell?_setCell_far _ _ _ _ (by show N + 1 ≠ N; omega)).trans h.1.1, by rw [World.frozen?_setCell]; exact h.1.2⟩, World.cell?_setCell_same' _ _ _ (by rw [h.2.1]; rfl), by rw [World.frozen?_setCell]; exact h.2.2⟩
def PutOk (w : World) (N : Nat) (r : Int × Bool) (e : Ending) (w' : World) : Prop := (∃ v, e = .returned v) ∧ BoxNO w' N r.1 r.2 ∧ Below N w w'
set_option maxRecDepth 100000 in
set_option maxHeartbeats 2000000 in
theorem put_any (p : Int) (k : Nat) (N : Nat) (n : Int) (o : Bool) (w : World) (hB : BoxNO w N n o) (hp : p = 2 ∨ p = 5) (hk : k ≤ 1000) (h1 : -9223372036854775807 ≤ n) (h2 : n ≤ 9223372036854775807) :
    Calls Tryd.prog 50 #[.int .i64 p, .int .i64 (k : Int), .pointer (some ⟨N, 0, none⟩), .pointer (some ⟨N + 1, 0, none⟩)] w (PutOk w N (putI p k n o)) := by
  have hp1 : 2 ≤ p := by omega
  have hp2 : p ≤ 5 := by omega
  have HB := Lib.hid hB
  clear hB hp
  go_enter Tryd.func50, Tryd.ntmps50
  go_wp2
  go_loopw [9] (fun i wr => ∃ (j : Nat) (m : Int), j ≤ k ∧ i = .int .i64 (j : Int) ∧ -9223372036854775807 ≤ m ∧ m ≤ 9223372036854775807 ∧ (∃ o', BoxNO wr N m o' ∧ putI p (k - j) m o' = putI p k n o) ∧ Below N w wr) (fun i _ => k - (intOf i).toNat)
  case atStart => exact ⟨0, n, Nat.zero_le _, rfl, h1, h2, ⟨o, HB.out, by simp⟩, Below.refl _ _⟩
  case round =>
    obtain ⟨j, m, hj, rfl, hm1, hm2, ⟨o', hb, he⟩, hbw⟩ := hrel
    have HB2 := Lib.hid hb
    have HE := Lib.hid he
    have HBW := Lib.hid hbw
    clear hb he hbw
    by_cases hlt : j < k
    · obtain ⟨⟨c1, f1⟩, c2, f2⟩ := HB2.out
      obtain ⟨d, hd⟩ : ∃ d, k - j = d + 1 := ⟨k - j - 1, by omega⟩
      have HD := Lib.hid hd
      clear hd
      cases hmm : mulI m p with
      | none =>
        have HM := Lib.hid hmm
        clear hmm
        go_wp2_with fail
        refine (Mul_any m p _ hm1 hm2 (by omega) (by omega)).mono ?_
        rintro e w1 ⟨rfl, rfl⟩
        rw [HM.out]
        have HB3 := Lib.hid (HB2.out.alloc #[.int .i64 m, .int .i64 p] 2)
        obtain ⟨⟨g1, k1⟩, g2, k2⟩ := HB3.out
        simp only [mulV]
        have HR : Hid (putI p k n o = (m, false)) := by
          show _ = _
          rw [← HE.out, HD.out]
          cases o'
          · rfl
          · rw [putI, HM.out]
        cases o'
        all_goals
          go_wp2
          refine bodyPost_ret (results_none rfl _ _ _) rfl ⟨⟨_, rfl⟩, ?_, ?_⟩
          · rw [HR.out]; exact HB3.out.set2 false
          · exact ((HBW.out.alloc (by have := World.block_lt_of_cell? wr ⟨N, 0, none⟩ HB2.out.1.1; exact Nat.le_of_lt this) _).setCell (p := ⟨N + 1, 0, none⟩) (Nat.le_succ _) _)
      | some m' =>
        have HM := Lib.hid hmm
        have hmb := mulI_bd hmm
        clear hmm
        go_wp2_with fail
        refine (Mul_any m p _ hm1 hm2 (by omega) (by omega)).mono ?_
        rintro e w1 ⟨rfl, rfl⟩
        rw [HM.out]
        have HB3 := Lib.hid (HB2.out.alloc #[.int .i64 m, .int .i64 p] 2)
        obtain ⟨⟨g1, k1⟩, g2, k2⟩ := HB3.out
        simp only [mulV]
        cases o' with
        | false =>
          have HR : Hid (putI p k n o = (m, false)) := by
            show _ = _
            rw [← HE.out, HD.out]
            rfl
          go_wp2
          refine bodyPost_ret (results_none rfl _ _ _) rfl ⟨⟨_, rfl⟩, ?_, ?_⟩
          · rw [HR.out]; exact HB3.out.set2 false
          · exact ((HBW.out.alloc (by have := World.block_lt_of_cell? wr ⟨N, 0, none⟩ HB2.out.1.1; exact Nat.le_of_lt this) _).setCell (p := ⟨N + 1, 0, none⟩) (Nat.le_succ _) _)
        | true =>
          have HR : Hid (putI p k n o = putI p d m' true) := by
            show _ = _
            rw [← HE.out, HD.out, putI, HM.out]
          have HB4 := Lib.hid (HB3.out.set2 true)
          obtain ⟨⟨a1, a2⟩, a3, a4⟩ := HB4.out
          go_wp2
          go_roundw
          case rel => exact ⟨j + 1, m', by omega, by simp, hmb.1, hmb.2, ⟨true, HB4.out.set1 m', by rw [HR.out, show k - (j + 1) = d by have := HD.out; omega]⟩, ((HBW.out.alloc (by have := World.block_lt_of_cell? wr ⟨N, 0, none⟩ HB2.out.1.1; exact Nat.le_of_lt this) _).setCell (p := ⟨N + 1, 0, none⟩) (Nat.le_succ _) _).setCell (p := ⟨N, 0, none⟩) (Nat.le_refl _) _⟩
          case measure => simp [intOf]; omega
    · obtain rfl : j = k := by omega
      have HR : Hid (putI p j n o = (m, o')) := by
        show _ = _
        rw [← HE.out, Nat.sub_self]
        rfl
      go_wp2
      refine bodyPost_end (results_none rfl _ _ _) rfl ⟨⟨_, rfl⟩, ?_, HBW.out⟩
      rw [HR.out]
      exact HB2.out
/-- What comes of a number: the frac, and the error's number. -/
def formI (x : LooseD) (ten : Int) : (Int × Int × Int) × Int :=
  if (putI 5 (x.t1 - min x.t0 x.t1).toNat (putI 2 (x.t0 - min x.t0 x.t1).toNat x.up true).1 (putI 2 (x.t0 - min x.t0 x.t1).toNat x.up true).2).2 = false ∨ ten + min x.t0 x.t1 < -1000 ∨ 1000 < ten + min x.t0 x.t1 then ((0, 0, 0), 10)
  else (((putI 5 (x.t1 - min x.t0 x.t1).toNat (putI 2 (x.t0 - min x.t0 x.t1).toNat x.up true).1 (putI 2 (x.t0 - min x.t0 x.t1).toNat x.up true).2).1, x.down, ten + min x.t0 x.t1), 0)
def fracV (f : Int × Int × Int) : Value := .agg #[.int .i64 f.1, .int .i64 f.2.1, .int .i64 f.2.2]
def FracOk (w : World) (r : (Int × Int × Int) × Int) (e : Ending) (w' : World) : Prop := e = .returned (.tuple #[fracV r.1, .int .i64 r.2]) ∧ Below w.heap.size w w'
set_option maxRecDepth 100000 in
set_option maxHeartbeats 4000000 in
theorem form_any (up down t0 t1 ten : Int) (w : World) (hT : TensAt w) (h1 : -9223372036854775807 ≤ up) (h2 : up ≤ 9223372036854775807) (a0 : -64 ≤ t0) (b0 : t0 ≤ 64) (a1 : -64 ≤ t1) (b1 : t1 ≤ 64) (c0 : -2000 ≤ ten) (c1 : ten ≤ 2000) :
    Calls Tryd.prog 40 #[looseV ⟨up, down, t0, t1⟩, .int .i64 ten] w (FracOk w (formI ⟨up, down, t0, t1⟩ ten)) := by
  obtain ⟨g0, g1⟩ := hT
  have i0 : ∀ w, (Instr.index 96 (.agg #[.int .i64 2, .int .i64 5]) (.int .i64 0)).run Tryd.prog w = .ok (.int .i64 2) w := fun _ => by kernel_rfl
  have i1 : ∀ w, (Instr.index 96 (.agg #[.int .i64 2, .int .i64 5]) (.int .i64 1)).run Tryd.prog w = .ok (.int .i64 5) w := fun _ => by kernel_rfl
  have hgw := World.block_lt_of_cell? w ⟨2, 0, none⟩ g0
  have hg : 2 < w.heap.size := hgw
  clear hgw
  obtain ⟨m, hm⟩ : ∃ m, min t0 t1 = m := ⟨_, rfl⟩
  obtain ⟨k0, hk0⟩ : ∃ k0 : Nat, t0 - m = (k0 : Int) := ⟨(t0 - m).toNat, by omega⟩
  obtain ⟨k1, hk1⟩ : ∃ k1 : Nat, t1 - m = (k1 : Int) := ⟨(t1 - m).toNat, by omega⟩
  obtain ⟨⟨n0, o0⟩, hp0⟩ : ∃ r, putI 2 k0 up true = r := ⟨_, rfl⟩
  obtain ⟨⟨n1, o1⟩, hp1⟩ : ∃ r, putI 5 k1 n0 o0 = r := ⟨_, rfl⟩
  have bd0 := putI_bd 2 k0 up true h1 h2
  rw [hp0] at bd0
  have HF : Hid (formI ⟨up, down, t0, t1⟩ ten = if o1 = false ∨ ten + m < -1000 ∨ 1000 < ten + m then ((0, 0, 0), 10) else ((n1, down, ten + m), 0)) := by
    show _ = _
    simp only [formI, hm, hk0, hk1, Int.toNat_natCast, hp0, hp1]
  have HP0 := Lib.hid hp0
  have HP1 := Lib.hid hp1
  have HK0 := Lib.hid hk0
  have HK1 := Lib.hid hk1
  have hk0b : k0 ≤ 1000 := by omega
  have hk1b : k1 ≤ 1000 := by omega
  have hm1 : -64 ≤ m := by omega
  have hm2 : m ≤ 64 := by omega
  have HM := Lib.hid hm
  simp only at bd0
  clear hp0 hp1 hk0 hk1
  have G0 := fun a b c d => cellAlloc d (cellAlloc c (cellAlloc b (cellAlloc a g0)))
  have G1 := fun a b c d => cellAlloc d (cellAlloc c (cellAlloc b (cellAlloc a g1)))
  clear g0 g1
  simp only [looseV]
  go_enter Tryd.func40, Tryd.ntmps40
  go_wp2_with fail
  clear G0 G1
  obtain ⟨V, hV⟩ : ∃ V, (((w.alloc (.cells #[.int .i64 up, .int .i64 down, .int .i64 t0, .int .i64 t1] 85)).alloc (.cells #[.int .i64 0, .int .i64 0, .int .i64 0] 70)).alloc (.cells #[.int .i64 up] 2)).alloc (.cells #[.bool true] 4) = V := ⟨_, rfl⟩
  rw [hV]
  obtain ⟨N, hN⟩ : ∃ N, w.heap.size + 1 + 1 = N := ⟨_, rfl⟩
  have hXV : ∀ (j : Nat) (v : Value), (#[.int .i64 up, .int .i64 down, .int .i64 t0, .int .i64 t1] : Array Value)[j]? = some v → V.cell? ⟨w.heap.size, j, none⟩ = some v := fun j v h => by rw [← hV]; exact cellAlloc _ (cellAlloc _ (cellAlloc _ (cellNew w _ _ j v h)))
  have hRV : ∀ (j : Nat) (v : Value), (#[.int .i64 0, .int .i64 0, .int .i64 0] : Array Value)[j]? = some v → V.cell? ⟨w.heap.size + 1, j, none⟩ = some v := fun j v h => by
    rw [← hV]
    have h5 := cellNew (w.alloc (.cells #[.int .i64 up, .int .i64 down, .int .i64 t0, .int .i64 t1] 85)) #[.int .i64 0, .int .i64 0, .int .i64 0] 70 j v h
    rw [World.size_alloc] at h5
    exact cellAlloc _ (cellAlloc _ h5)
  have hFV : ∀ j, V.frozen? ⟨w.heap.size + 1, j, none⟩ = false := fun j => by
    rw [← hV, frozen?_alloc_cells, frozen?_alloc_cells]
    have h5 := World.frozen?_alloc_new (w := w.alloc (.cells #[.int .i64 up, .int .i64 down, .int .i64 t0, .int .i64 t1] 85)) #[.int .i64 0, .int .i64 0, .int .i64 0] 70 j
    rw [World.size_alloc] at h5
    exact h5
  have hBV : BoxNO V N up true := by
    rw [← hV, ← hN]
    refine ⟨⟨cellAlloc _ ?_, ?_⟩, ?_, ?_⟩
    · have h5 := cellNew ((w.alloc (.cells #[.int .i64 up, .int .i64 down, .int .i64 t0, .int .i64 t1] 85)).alloc (.cells #[.int .i64 0, .int .i64 0, .int .i64 0] 70)) #[.int .i64 up] 2 0 _ rfl
      rw [World.size_alloc, World.size_alloc] at h5
      exact h5
    · rw [frozen?_alloc_cells]
      have h5 := World.frozen?_alloc_new (w := (w.alloc (.cells #[.int .i64 up, .int .i64 down, .int .i64 t0, .int .i64 t1] 85)).alloc (.cells #[.int .i64 0, .int .i64 0, .int .i64 0] 70)) #[.int .i64 up] 2 0
      rw [World.size_alloc, World.size_alloc] at h5
      exact h5
    · have h5 := cellNew (((w.alloc (.cells #[.int .i64 up, .int .i64 down, .int .i64 t0, .int .i64 t1] 85)).alloc (.cells #[.int .i64 0, .int .i64 0, .int .i64 0] 70)).alloc (.cells #[.int .i64 up] 2)) #[.bool true] 4 0 _ rfl
      rw [World.size_alloc, World.size_alloc, World.size_alloc] at h5
      exact h5
    · have h5 := World.frozen?_alloc_new (w := ((w.alloc (.cells #[.int .i64 up, .int .i64 down, .int .i64 t0, .int .i64 t1] 85)).alloc (.cells #[.int .i64 0, .int .i64 0, .int .i64 0] 70)).alloc (.cells #[.int .i64 up] 2)) #[.bool true] 4 0
      rw [World.size_alloc, World.size_alloc, World.size_alloc] at h5
      exact h5
  have HWV : Hid (Below w.heap.size w V) := by rw [← hV]; exact ((((Below.refl _ w).alloc (Nat.le_refl _) _).alloc (by simp) _).alloc (by simp; omega) _).alloc (by simp; omega) _
  clear hV
  have HXV := Lib.hid hXV
  have HRV := Lib.hid hRV
  have HFV := Lib.hid hFV
  have x0 := hXV 0 _ rfl
  have x1 := hXV 1 _ rfl
  have x2 := hXV 2 _ rfl
  have x3 := hXV 3 _ rfl
  clear hXV hRV hFV
  rw [hN]
  have HN := Lib.hid hN
  have hNs : w.heap.size + 2 = N := hN
  clear hN
  refine wp_loop_rounds 3 ?_
  rw [rounds_succ]
  go_wp2_with fail
  rw [HK0.out]
  refine (put_any 2 k0 N up true V hBV (.inl rfl) hk0b h1 h2).mono ?_
  rintro e V1 ⟨⟨v, rfl⟩, hb1, hw1⟩
  rw [HP0.out] at hb1
  have y0 := (hw1.cell (p := ⟨w.heap.size, 0, none⟩) (by show w.heap.size < N; omega)).trans x0
  have y1 := (hw1.cell (p := ⟨w.heap.size, 1, none⟩) (by show w.heap.size < N; omega)).trans x1
  have y2 := (hw1.cell (p := ⟨w.heap.size, 2, none⟩) (by show w.heap.size < N; omega)).trans x2
  have y3 := (hw1.cell (p := ⟨w.heap.size, 3, none⟩) (by show w.heap.size < N; omega)).trans x3
  have HW1 := Lib.hid hw1
  clear hw1 hBV x0 x1 x2 x3
  go_wp2_with fail
  rw [rounds_succ]
  go_wp2_with fail
  rw [HK1.out]
  refine (put_any 5 k1 N n0 o0 V1 hb1 (.inr rfl) hk1b bd0.1 bd0.2).mono ?_
  rintro e V2 ⟨⟨v2, rfl⟩, hb2, hw2⟩
  rw [HP1.out] at hb2
  have z1 := (hw2.cell (p := ⟨w.heap.size, 1, none⟩) (by show w.heap.size < N; omega)).trans y1
  have hw12 := HW1.out.trans hw2
  have r0 := (hw12.cell (p := ⟨w.heap.size + 1, 0, none⟩) (by show w.heap.size + 1 < N; omega)).trans (HRV.out 0 _ rfl)
  have r1 := (hw12.cell (p := ⟨w.heap.size + 1, 1, none⟩) (by show w.heap.size + 1 < N; omega)).trans (HRV.out 1 _ rfl)
  have r2 := (hw12.cell (p := ⟨w.heap.size + 1, 2, none⟩) (by show w.heap.size + 1 < N; omega)).trans (HRV.out 2 _ rfl)
  have rf := fun j => (hw12.frozen (p := ⟨w.heap.size + 1, j, none⟩) (by show w.heap.size + 1 < N; omega)).trans (HFV.out j)
  have HW2 := Lib.hid hw12
  have hs2 := hw12.size
  obtain ⟨⟨b1', f1⟩, b2', f2⟩ := hb2
  have b3 := fun o => cellAlloc o b2'
  have R0 := fun o => cellAlloc o r0
  have R1 := fun o => cellAlloc o r1
  have R2 := fun o => cellAlloc o r2
  have RF := fun c t j => (frozen?_alloc_cells V2 c t ⟨w.heap.size + 1, j, none⟩).trans (rf j)
  have HBE : Hid (Below w.heap.size w (V2.alloc (.cells #[.int .i64 n1, .int .i64 down, .int .i64 (ten + m)] 70))) := (HWV.out.trans (HW2.out.mono (by omega))).alloc (by have := HWV.out.size; omega) _
  clear hw2 hw12 y0 y1 y2 y3 hb1 r0 r1 r2 rf
  have hten : ten + m < -1000 ∨ 1000 < ten + m ∨ (-1000 ≤ ten + m ∧ ten + m ≤ 1000) := by omega
  cases o1
  · go_wp2_with fail
    rw [rounds_succ]
    go_wp2_with fail
    refine bodyPost_ret (v := .tuple #[.agg #[.int .i64 (0), .int .i64 (0), .int .i64 (0)], .int .i64 10]) (results_row2 Tryd.results40 _ _ (w.heap.size + 1) [_, _, _] _ rfl (setRowL_range (w.heap.size + 1) [_, _, _] 0 _ (fun i h1 h2 => by
      have h3 : i = 0 ∨ i = 1 ∨ i = 2 := by simp only [List.length_cons, List.length_nil] at h2; omega
      rcases h3 with rfl | rfl | rfl
      · rw [R0]; rfl
      · rw [R1]; rfl
      · rw [R2]; rfl)) Tryd.underlying70 rfl (by kernel_rfl)) rfl ⟨?_, ?_⟩
    · rw [HF.out, if_pos (by simp)]; rfl
    · (iterate 3 refine Below.setCell ?_ (by exact Nat.le_succ _) _)
      exact HBE.out
  rcases hten with hten | hten | ⟨hten, hten2⟩
  · go_wp2_with fail
    rw [rounds_succ]
    go_wp2_with fail
    refine bodyPost_ret (v := .tuple #[.agg #[.int .i64 (0), .int .i64 (0), .int .i64 (0)], .int .i64 10]) (results_row2 Tryd.results40 _ _ (w.heap.size + 1) [_, _, _] _ rfl (setRowL_range (w.heap.size + 1) [_, _, _] 0 _ (fun i h1 h2 => by
      have h3 : i = 0 ∨ i = 1 ∨ i = 2 := by simp only [List.length_cons, List.length_nil] at h2; omega
      rcases h3 with rfl | rfl | rfl
      · rw [R0]; rfl
      · rw [R1]; rfl
      · rw [R2]; rfl)) Tryd.underlying70 rfl (by kernel_rfl)) rfl ⟨?_, ?_⟩
    · rw [HF.out, if_pos (by right; left; exact hten)]; rfl
    · (iterate 3 refine Below.setCell ?_ (by exact Nat.le_succ _) _)
      exact HBE.out
  · go_wp2_with fail
    rw [rounds_succ]
    go_wp2_with fail
    refine bodyPost_ret (v := .tuple #[.agg #[.int .i64 (0), .int .i64 (0), .int .i64 (0)], .int .i64 10]) (results_row2 Tryd.results40 _ _ (w.heap.size + 1) [_, _, _] _ rfl (setRowL_range (w.heap.size + 1) [_, _, _] 0 _ (fun i h1 h2 => by
      have h3 : i = 0 ∨ i = 1 ∨ i = 2 := by simp only [List.length_cons, List.length_nil] at h2; omega
      rcases h3 with rfl | rfl | rfl
      · rw [R0]; rfl
      · rw [R1]; rfl
      · rw [R2]; rfl)) Tryd.underlying70 rfl (by kernel_rfl)) rfl ⟨?_, ?_⟩
    · rw [HF.out, if_pos (by right; right; exact hten)]; rfl
    · (iterate 3 refine Below.setCell ?_ (by exact Nat.le_succ _) _)
      exact HBE.out
  · go_wp2_with fail
    rw [rounds_succ]
    go_wp2_with fail
    refine bodyPost_ret (v := .tuple #[.agg #[.int .i64 (n1), .int .i64 (down), .int .i64 (ten + m)], .int .i64 0]) (results_row2 Tryd.results40 _ _ (w.heap.size + 1) [_, _, _] _ rfl (setRowL_range (w.heap.size + 1) [_, _, _] 0 _ (fun i h1 h2 => by
      have h3 : i = 0 ∨ i = 1 ∨ i = 2 := by simp only [List.length_cons, List.length_nil] at h2; omega
      rcases h3 with rfl | rfl | rfl
      · rw [R0]; rfl
      · rw [R1]; rfl
      · rw [R2]; rfl)) Tryd.underlying70 rfl (by kernel_rfl)) rfl ⟨?_, ?_⟩
    · rw [HF.out, if_neg (by simp; omega)]; rfl
    · (iterate 3 refine Below.setCell ?_ (by exact Nat.le_succ _) _)
      exact HBE.out
end Go.Proofs.YtiinppicdhidhaaDoor
