/-
  frac: the contracts of loosen, form, Make.
-/
import Derived.Test.YtiinppicdhidhaaDoorWh
import Derived.Deep.MidRow
import Derived.Laws.ResultCell
set_option linter.unusedVariables false
set_option linter.unusedSimpArgs false
namespace Go.Proofs.YtiinppicdhidhaaDoor
open Go.RowKit
open Go.Proofs

theorem splitF_bd {p : Int} (hp : 2 ≤ p) : ∀ (f : Nat) (n : Int), n ≠ 0 → (splitF p f n).2 ≠ 0 ∧ (splitF p f n).2.natAbs ≤ n.natAbs ∧ (splitF p f n).1 ≤ f
  | 0, n, h => ⟨h, Nat.le_refl _, Nat.le_refl _⟩
  | f + 1, n, h => by
    by_cases hd : n.tmod p = 0
    · have hh := half p n hp hd
      have hq0 : n.tdiv p ≠ 0 := fun e => by rw [e] at hh; simp at hh; omega
      have ih := splitF_bd hp f (n.tdiv p) hq0
      rw [splitF_yes hd]
      refine ⟨ih.1, Nat.le_trans ih.2.1 ?_, by have := ih.2.2; omega⟩
      rw [hh]
      exact Nat.le_mul_of_pos_left _ (by omega)
    · rw [splitF_no hd]
      exact ⟨h, Nat.le_refl _, Nat.zero_le _⟩
def TensAt (w : World) : Prop := w.cell? ⟨2, 0, none⟩ = some (.int .i64 2) ∧ w.cell? ⟨2, 1, none⟩ = some (.int .i64 5)
structure LooseD where
  up : Int
  down : Int
  t0 : Int
  t1 : Int
  deriving DecidableEq
def looseV (x : LooseD) : Value := .agg #[.int .i64 x.up, .int .i64 x.down, .int .i64 x.t0, .int .i64 x.t1]
def gsign (u d : Int) : Int := if d < 0 then -(Int.gcd u d : Int) else (Int.gcd u d : Int)
def loosenI (num den : Int) : LooseD :=
  ⟨(splitF 5 64 (splitF 2 64 num).2).2.tdiv (gsign (splitF 5 64 (splitF 2 64 num).2).2 (splitF 5 64 (splitF 2 64 den).2).2),
   (splitF 5 64 (splitF 2 64 den).2).2.tdiv (gsign (splitF 5 64 (splitF 2 64 num).2).2 (splitF 5 64 (splitF 2 64 den).2).2),
   ((splitF 2 64 num).1 : Int) - (splitF 2 64 den).1, ((splitF 5 64 (splitF 2 64 num).2).1 : Int) - (splitF 5 64 (splitF 2 64 den).2).1⟩
theorem set_some {W : World} {p a : Addr} {v : Value} (h : (W.cell? a).isSome = true) : ((W.setCell p v).cell? a).isSome = true := by
  by_cases e : p = a
  · subst e
    rw [World.cell?_setCell_same' _ _ _ h]; rfl
  · rw [World.cell?_setCell_other (h := e)]; exact h
theorem ne_off {b i j : Nat} (h : i ≠ j) : (⟨b, i, none⟩ : Addr) ≠ ⟨b, j, none⟩ := fun e => h (Addr.mk.inj e).2.1
/-- The cells of a block written one by one. -/
def setRowL (b : Nat) : Nat → List Value → World → World
  | _, [], W => W
  | j, v :: l, W => setRowL b (j + 1) l (W.setCell ⟨b, j, none⟩ v)
theorem setRowL_below (b : Nat) : ∀ (l : List Value) (j i : Nat) (W : World), i < j → (setRowL b j l W).cell? ⟨b, i, none⟩ = W.cell? ⟨b, i, none⟩
  | [], _, _, _, _ => rfl
  | v :: l, j, i, W, h => by
    rw [setRowL, setRowL_below b l (j + 1) i _ (by omega)]
    exact World.cell?_setCell_other (h := ne_off (by omega)) ..
theorem setRowL_range (b : Nat) : ∀ (l : List Value) (j : Nat) (W : World), (∀ i, j ≤ i → i < j + l.length → (W.cell? ⟨b, i, none⟩).isSome = true) → (setRowL b j l W).rangeAt b j l
  | [], _, _, _ => fun i u hu => by cases hu
  | v :: l, j, W, h => fun i u hu => by
    rcases i with _ | i
    · simp only [List.getElem?_cons_zero, Option.some.injEq] at hu
      subst hu
      show (setRowL b (j + 1) l (W.setCell ⟨b, j, none⟩ v)).cell? ⟨b, j, none⟩ = _
      rw [setRowL_below b l (j + 1) j _ (by omega)]
      exact World.cell?_setCell_same' _ _ _ (h j (Nat.le_refl _) (by simp))
    · rw [List.getElem?_cons_succ] at hu
      have := setRowL_range b l (j + 1) (W.setCell ⟨b, j, none⟩ v) (fun k h1 h2 => set_some (h k (by omega) (by simp only [List.length_cons]; omega))) i u hu
      rw [setRowL, show j + (i + 1) = j + 1 + i by omega]
      exact this
theorem results_row {fn : Func} {p : Tmp} {ty : TypeId} (h : fn.results = #[.cell p ty]) (tmps : Array Value) (w : World) (b : Nat) (cs : List Value) (d : TypeDesc)
    (hp : tmps.getD p undef = .pointer (some ⟨b, 0, none⟩)) (hc : w.rangeAt b 0 cs) (hu : Tryd.prog.underlying ty = some d) (hd : d.isRow = true) (hi : (Tryd.prog.info? ty).map (·.size) = some cs.length) :
    (results fn tmps).run Tryd.prog w = .ok (.agg cs.toArray) w := by
  have hp' : tmps[p]?.getD undef = .pointer (some ⟨b, 0, none⟩) := by simpa using hp
  simp [results, h, hp', asAddr, run_loadVar_mid w b 0 ty cs d hc hu hd hi]
theorem results_row2 {fn : Func} {p u : Tmp} {ty : TypeId} (h : fn.results = #[.cell p ty, .tmp u]) (tmps : Array Value) (w : World) (b : Nat) (cs : List Value) (d : TypeDesc)
    (hp : tmps.getD p undef = .pointer (some ⟨b, 0, none⟩)) (hc : w.rangeAt b 0 cs) (hu : Tryd.prog.underlying ty = some d) (hd : d.isRow = true) (hi : (Tryd.prog.info? ty).map (·.size) = some cs.length) :
    (results fn tmps).run Tryd.prog w = .ok (.tuple #[.agg cs.toArray, tmps.getD u undef]) w := by
  rw [results_cell_tmp h, hp]
  simp [asAddr, Result.andThen, run_loadVar_mid w b 0 ty cs d hc hu hd hi]
theorem tdiv_bd (x : Int) (g : Nat) (hg : 0 < g) : -(x.natAbs : Int) ≤ x.tdiv g ∧ x.tdiv g ≤ x.natAbs := by
  have h := Int.natAbs_tdiv x g
  have h2 : x.natAbs / (g : Int).natAbs ≤ x.natAbs := Nat.div_le_self _ _
  have h3 : (x.tdiv g).natAbs ≤ x.natAbs := by rw [h]; exact h2
  omega
theorem tdiv_bdn (x : Int) (g : Nat) (hg : 0 < g) : -(x.natAbs : Int) ≤ x.tdiv (-g) ∧ x.tdiv (-g) ≤ x.natAbs := by
  rw [Int.tdiv_neg]
  have := tdiv_bd x g hg
  omega
set_option maxRecDepth 100000 in
set_option maxHeartbeats 2000000 in
theorem loosen_any (num den : Int) (w : World) (hT : TensAt w) (h0 : num ≠ 0) (h1 : -9223372036854775807 ≤ num) (h2 : num ≤ 9223372036854775807) (k0 : den ≠ 0) (k1 : -9223372036854775807 ≤ den) (k2 : den ≤ 9223372036854775807) :
    Calls Tryd.prog 39 #[.int .i64 num, .int .i64 den] w fun e w' => e = .returned (looseV (loosenI num den)) ∧ Below w.heap.size w w' := by
  obtain ⟨t0, t1⟩ := hT
  have i0 : ∀ w, (Instr.index 96 (.agg #[.int .i64 2, .int .i64 5]) (.int .i64 0)).run Tryd.prog w = .ok (.int .i64 2) w := fun _ => by kernel_rfl
  have i1 : ∀ w, (Instr.index 96 (.agg #[.int .i64 2, .int .i64 5]) (.int .i64 1)).run Tryd.prog w = .ok (.int .i64 5) w := fun _ => by kernel_rfl
  obtain ⟨hg, hgl⟩ : 2 < w.heap.size ∧ True := ⟨World.block_lt_of_cell? w ⟨2, 0, none⟩ t0, trivial⟩
  have a1 := splitF_bd (p := 2) (by omega) 64 num h0
  have b1 := splitF_bd (p := 2) (by omega) 64 den k0
  have HL : Hid (loosenI num den = loosenI num den) := rfl
  obtain ⟨ka, ma, ha⟩ : ∃ ka ma, splitF 2 64 num = (ka, ma) := ⟨_, _, rfl⟩
  obtain ⟨kb, mb, hb⟩ : ∃ kb mb, splitF 2 64 den = (kb, mb) := ⟨_, _, rfl⟩
  rw [ha] at a1
  rw [hb] at b1
  obtain ⟨a1, a2, a3⟩ := a1
  obtain ⟨b1, b2, b3⟩ := b1
  have c1 := splitF_bd (p := 5) (by omega) 64 ma a1
  have d1 := splitF_bd (p := 5) (by omega) 64 mb b1
  obtain ⟨kc, mc, hc⟩ : ∃ kc mc, splitF 5 64 ma = (kc, mc) := ⟨_, _, rfl⟩
  obtain ⟨kd, md, hd⟩ : ∃ kd md, splitF 5 64 mb = (kd, md) := ⟨_, _, rfl⟩
  rw [hc] at c1
  rw [hd] at d1
  obtain ⟨c1, c2, c3⟩ := c1
  obtain ⟨d1, d2, d3⟩ := d1
  have HE : Hid (loosenI num den = ⟨mc.tdiv (gsign mc md), md.tdiv (gsign mc md), (ka : Int) - kb, (kc : Int) - kd⟩) := by
    show _ = _
    simp only [loosenI, ha, hb, hc, hd]
  have HA := Lib.hid ha
  have HB := Lib.hid hb
  have HC := Lib.hid hc
  have HD := Lib.hid hd
  simp only at a1 a2 a3 b1 b2 b3 c1 c2 c3 d1 d2 d3
  have a4 : -9223372036854775807 ≤ ma ∧ ma ≤ 9223372036854775807 := by omega
  have b4 : -9223372036854775807 ≤ mb ∧ mb ≤ 9223372036854775807 := by omega
  have c4 : -9223372036854775807 ≤ mc ∧ mc ≤ 9223372036854775807 := by omega
  have d4 : -9223372036854775807 ≤ md ∧ md ≤ 9223372036854775807 := by omega
  clear ha hb hc hd HL
  go_enter Tryd.func39, Tryd.ntmps39
  go_wp2
  refine wp_loop_rounds 3 ?_
  rw [rounds_succ]
  go_wp2_with fail
  refine (Split_any num 2 (.inl rfl) _ h0 h1 h2).mono ?_
  rintro e w1 ⟨rfl, rfl⟩
  rw [HA.out]
  go_wp2_with fail
  refine (Split_any den 2 (.inl rfl) _ k0 k1 k2).mono ?_
  rintro e w1 ⟨rfl, rfl⟩
  rw [HB.out]
  go_wp2_with fail
  rw [rounds_succ]
  go_wp2_with fail
  refine (Split_any ma 5 (.inr rfl) _ a1 a4.1 a4.2).mono ?_
  rintro e w1 ⟨rfl, rfl⟩
  rw [HC.out]
  go_wp2_with fail
  refine (Split_any mb 5 (.inr rfl) _ b1 b4.1 b4.2).mono ?_
  rintro e w1 ⟨rfl, rfl⟩
  rw [HD.out]
  go_wp2_with fail
  rw [rounds_succ]
  go_wp2_with fail
  refine (Gcd_any mc md _ c4.1 c4.2 d4.1 d4.2 c1).mono ?_
  rintro e w1 ⟨rfl, nd, rfl⟩
  have hgp : 0 < Int.gcd mc md := Int.gcd_pos_of_ne_zero_left _ c1
  have hgl : Int.gcd mc md ≤ mc.natAbs := Nat.le_of_dvd (by omega) (Nat.gcd_dvd_left _ _)
  obtain ⟨g, hg0⟩ : ∃ g : Nat, Int.gcd mc md = g := ⟨_, rfl⟩
  rw [hg0] at hgp hgl ⊢
  have hg63 : (g : Int) ≤ 9223372036854775807 := by omega
  have hgz : ((g : Int) == 0) = false := by simp; omega
  have hgn : (-(g : Int) == 0) = false := by simp; omega
  have tb := fun (x : Int) => tdiv_bd x g hgp
  have tn := fun (x : Int) => tdiv_bdn x g hgp
  have u1 := tb mc
  have u2 := tb md
  have v1 := tn mc
  have v2 := tn md
  have hd0 : md ≠ 0 := d1
  clear tb tn t0 t1 hg
  by_cases hneg : md < 0
  · have HS : Hid (gsign mc md = -(g : Int)) := by show _ = _; rw [gsign, if_pos hneg, hg0]
    clear hg0
    go_wp2
    refine bodyPost_ret (v := .agg #[.int .i64 (-mc.tdiv ↑g), .int .i64 (-md.tdiv ↑g), .int .i64 ((ka : Int) - kb), .int .i64 ((kc : Int) - kd)]) (results_row Tryd.results39 _ _ w.heap.size [_, _, _, _] _ rfl (setRowL_range w.heap.size [_, _, _, _] 0 _ (fun i h1 h2 => set_some (set_some (by
        have h3 : i = 0 ∨ i = 1 ∨ i = 2 ∨ i = 3 := by simp only [List.length_cons, List.length_nil] at h2; omega
        have h4 : ((((w.alloc (.cells #[.int .i64 0, .int .i64 0, .int .i64 0, .int .i64 0] 85)).alloc (.cells #[.int .i64 mc, .int .i64 md, .int .i64 ((ka : Int) - kb), .int .i64 ((kc : Int) - kd)] 85)).alloc (.cells #[.int .i64 mc, .int .i64 md] 2)).drewN nd).cell? ⟨w.heap.size, i, none⟩ = some (.int .i64 0) := cellAlloc _ (cellAlloc _ (cellNew w _ _ i _ (by rcases h3 with rfl | rfl | rfl | rfl <;> rfl)))
        rw [h4]; rfl)))) Tryd.underlying85 rfl (by kernel_rfl)) rfl ⟨?_, ?_⟩
    · rw [HE.out, HS.out, looseV]
      simp only [Int.tdiv_neg]
    · (iterate 6 refine Below.setCell ?_ (by first | exact Nat.le_refl _ | exact Nat.le_succ _) _)
      refine below_drewN ?_ _
      exact (((Below.refl _ _).alloc (Nat.le_refl _) _).alloc (by simp) _).alloc (by simp; omega) _
  · have HS : Hid (gsign mc md = (g : Int)) := by show _ = _; rw [gsign, if_neg hneg, hg0]
    clear hg0
    go_wp2
    refine bodyPost_ret (v := .agg #[.int .i64 (mc.tdiv ↑g), .int .i64 (md.tdiv ↑g), .int .i64 ((ka : Int) - kb), .int .i64 ((kc : Int) - kd)]) (results_row Tryd.results39 _ _ w.heap.size [_, _, _, _] _ rfl (setRowL_range w.heap.size [_, _, _, _] 0 _ (fun i h1 h2 => set_some (set_some (by
        have h3 : i = 0 ∨ i = 1 ∨ i = 2 ∨ i = 3 := by simp only [List.length_cons, List.length_nil] at h2; omega
        have h4 : ((((w.alloc (.cells #[.int .i64 0, .int .i64 0, .int .i64 0, .int .i64 0] 85)).alloc (.cells #[.int .i64 mc, .int .i64 md, .int .i64 ((ka : Int) - kb), .int .i64 ((kc : Int) - kd)] 85)).alloc (.cells #[.int .i64 mc, .int .i64 md] 2)).drewN nd).cell? ⟨w.heap.size, i, none⟩ = some (.int .i64 0) := cellAlloc _ (cellAlloc _ (cellNew w _ _ i _ (by rcases h3 with rfl | rfl | rfl | rfl <;> rfl)))
        rw [h4]; rfl)))) Tryd.underlying85 rfl (by kernel_rfl)) rfl ⟨?_, ?_⟩
    · rw [HE.out, HS.out, looseV]
    · (iterate 6 refine Below.setCell ?_ (by first | exact Nat.le_refl _ | exact Nat.le_succ _) _)
      refine below_drewN ?_ _
      exact (((Below.refl _ _).alloc (Nat.le_refl _) _).alloc (by simp) _).alloc (by simp; omega) _
end Go.Proofs.YtiinppicdhidhaaDoor
