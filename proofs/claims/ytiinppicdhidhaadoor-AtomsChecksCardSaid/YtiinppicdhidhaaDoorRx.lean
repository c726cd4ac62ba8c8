/-
  The reference's Split, of, form, Make: the walks.
-/
import Derived.Test.YtiinppicdhidhaaDoorRe
import Derived.Test.YtiinppicdhidhaaDoorRd
set_option linter.unusedVariables false
set_option linter.unusedSimpArgs false
namespace Go.Proofs.YtiinppicdhidhaaDoor
open Go.RowKit
open Go.Proofs

theorem cellB {W : World} {b j : Nat} {cs : Array Value} {ty : TypeId} {fr : Nat × Nat} {v : Value} (h : W.heap[b]? = some (.cells cs ty fr)) (hv : cs[j]? = some v) : W.cell? ⟨b, j, none⟩ = some v := by
  simp [World.cell?, h, hv]
theorem freeB {W : World} {b j : Nat} {cs : Array Value} {ty : TypeId} (h : W.heap[b]? = some (.cells cs ty (0, 0))) : W.frozen? ⟨b, j, none⟩ = false := by
  simp [World.frozen?, h]
theorem blk2_told {W : World} {b : Nat} {x y : Value} {ty : TypeId} (h : W.heap[b]? = some (.cells #[x, y] ty (0, 0))) (u v : Value) : ((W.setCell ⟨b, 0, none⟩ u).setCell ⟨b, 1, none⟩ v).heap[b]? = some (.cells #[u, v] ty (0, 0)) := by
  have h1 := heap_setCell_same W b 0 _ _ u h
  have h2 := heap_setCell_same _ b 1 _ _ v h1
  exact h2.trans rfl
theorem blk2_other {W : World} {b c : Nat} {x y : Value} {ty : TypeId} (h : W.heap[b]? = some (.cells #[x, y] ty (0, 0))) (hc : c < b) (u v : Value) : ((W.setCell ⟨b, 0, none⟩ u).setCell ⟨b, 1, none⟩ v).heap[c]? = W.heap[c]? := by
  have hb : b < W.heap.size := (Array.getElem?_eq_some_iff.1 h).1
  exact (heap_setCell_other _ ⟨b, 1, none⟩ c v (by show c ≠ b; omega)).trans (heap_setCell_other W ⟨b, 0, none⟩ c u (by show c ≠ b; omega))
theorem rangeB {W : World} {b : Nat} {cs : List Value} {ty : TypeId} {fr : Nat × Nat} (h : W.heap[b]? = some (.cells cs.toArray ty fr)) : W.rangeAt b 0 cs := fun j v hj => by
  rw [Nat.zero_add]
  exact cellB h (by simpa using hj)
theorem two_new (w : World) (a b : Array Value) (s t : TypeId) : ((w.alloc (.cells a s)).alloc (.cells b t)).heap[w.heap.size]? = some (.cells a s (0, 0)) ∧ ((w.alloc (.cells a s)).alloc (.cells b t)).heap[w.heap.size + 1]? = some (.cells b t (0, 0)) := by
  refine ⟨(heap_alloc_old _ _ (by simp)).trans (heap_alloc_new w _), ?_⟩
  have := heap_alloc_new (w.alloc (.cells a s)) (.cells b t)
  rwa [World.size_alloc] at this
set_option maxRecDepth 100000 in
set_option maxHeartbeats 2000000 in
theorem rsplit_any (n p : Int) (hp : p = 2 ∨ p = 5) (w : World) (h0 : n ≠ 0) (h1 : -9223372036854775807 ≤ n) (h2 : n ≤ 9223372036854775807) :
    Calls Tryd.prog 53 #[.int .i64 n, .int .i64 p] w fun e w' => e = .returned (.agg #[.int .i64 ((splitF p 64 n).1 : Nat), .int .i64 (splitF p 64 n).2]) ∧ Below w.heap.size w w' := by
  have hn0 : (n == 0) = false := by simpa using h0
  have hp2 : 2 ≤ p := by omega
  have hp5 : p ≤ 5 := by omega
  have HP := Lib.hid hp
  have hpd : decide (p < 2) = false := by simp; omega
  clear hp
  go_enter Tryd.func53, Tryd.ntmps53
  go_wp2_with fail
  refine (rfits_yes n _ h1).mono ?_
  rintro e wx ⟨rfl, rfl⟩
  go_wp2_with fail
  go_loopw [22] (fun _ wr => ∃ (m : Int) (k : Nat), m ≠ 0 ∧ m.natAbs * 2 ^ k ≤ n.natAbs ∧ wr.heap[w.heap.size]? = some (.cells #[.int .i64 0, .int .i64 0] 107 (0, 0)) ∧ wr.heap[w.heap.size + 1]? = some (.cells #[.int .i64 (k : Int), .int .i64 m] 107 (0, 0)) ∧ splitF p 64 n = (k + (splitF p (64 - k) m).1, (splitF p (64 - k) m).2) ∧ Below w.heap.size w wr) (fun _ wr => match wr.cell? ⟨w.heap.size + 1, 1, none⟩ with | some v => (intOf v).natAbs | none => 0)
  case atStart =>
    exact ⟨n, 0, h0, by simp, (two_new w _ _ _ _).1, (two_new w _ _ _ _).2, by simp, ((Below.refl _ _).alloc (Nat.le_refl _) _).alloc (by simp) _⟩
  case round =>
    obtain ⟨m, k, hm0, hle, hb0, hb1, hs, hbw⟩ := hrel
    have hk := pow_lt63 hm0 hle (by omega)
    have HS := Lib.hid hs
    have HLE := Lib.hid hle
    have HB0 := Lib.hid hb0
    have HB1 := Lib.hid hb1
    have HBW := Lib.hid hbw
    have c0 := cellB hb1 (j := 0) rfl
    have c1 := cellB hb1 (j := 1) rfl
    have f0 := freeB hb1 (j := 0)
    have f1 := freeB hb1 (j := 1)
    have d0 := cellB hb0 (j := 0) rfl
    have d1 := cellB hb0 (j := 1) rfl
    have e0 := freeB hb0 (j := 0)
    have e1 := freeB hb0 (j := 1)
    have hm1 : m.natAbs ≤ n.natAbs := Nat.le_trans (Nat.le_mul_of_pos_right _ (Nat.two_pow_pos k)) hle
    have hm2 : -9223372036854775807 ≤ m := by omega
    have hm3 : m ≤ 9223372036854775807 := by omega
    obtain ⟨f, hf⟩ : ∃ f, 64 - k = f + 1 := ⟨63 - k, by omega⟩
    have HF := Lib.hid hf
    clear hs hle hm1 hf hb0 hb1 hbw
    by_cases hd : m.tmod p = 0
    · have hh := half p m hp2 hd
      have hmb : (m.tmod p == 0) = true := by simpa using hd
      have HD := Lib.hid hd
      have hq0 : m.tdiv p ≠ 0 := fun e => by rw [e] at hh; simp at hh; omega
      have hq1 : (m.tdiv p).natAbs * 2 ≤ m.natAbs := by
        rw [hh, Nat.mul_comm]
        exact Nat.mul_le_mul_right _ (by omega)
      have HQ0 := Lib.hid hq0
      have HQ1 := Lib.hid hq1
      have hq2 : -9223372036854775807 ≤ m.tdiv p := by omega
      have hq3 : m.tdiv p ≤ 9223372036854775807 := by omega
      clear hh hd hq0 hq1
      go_wp2
      go_roundw
      case rel =>
        refine ⟨m.tdiv p, k + 1, HQ0.out, ?_, ?_, ?_, ?_, (HBW.out.setCell (p := ⟨w.heap.size + 1, 0, none⟩) (Nat.le_succ _) _).setCell (p := ⟨w.heap.size + 1, 1, none⟩) (Nat.le_succ _) _⟩
        · rw [Nat.pow_succ, Nat.mul_comm (2 ^ k) 2, ← Nat.mul_assoc]
          exact Nat.le_trans (Nat.mul_le_mul_right _ HQ1.out) HLE.out
        · exact (blk2_other HB1.out (by omega) _ _).trans HB0.out
        · exact blk2_told HB1.out _ _
        · rw [HS.out, HF.out, splitF_yes HD.out, show 64 - (k + 1) = f by have := HF.out; omega]
          simp only [Prod.mk.injEq, and_true]
          omega
      case measure =>
        have h5 := HQ1.out
        have h6 := HQ0.out
        rw [cellB (blk2_told HB1.out _ _) (j := 1) rfl, cellB HB1.out (j := 1) rfl]
        show (m.tdiv p).natAbs < m.natAbs
        omega
    · have hmb : (m.tmod p == 0) = false := by simpa using hd
      have HD := Lib.hid hd
      clear hd
      go_wp2
      refine bodyPost_ret (v := .agg #[.int .i64 (k : Int), .int .i64 m]) (results_row Tryd.results53 _ _ w.heap.size [_, _] _ rfl (rangeB (blk2_told HB0.out _ _)) Tryd.underlying107 rfl (by kernel_rfl)) rfl ⟨by rw [HS.out, HF.out, splitF_no HD.out]; rfl, (HBW.out.setCell (p := ⟨w.heap.size, 0, none⟩) (Nat.le_refl _) _).setCell (p := ⟨w.heap.size, 1, none⟩) (Nat.le_refl _) _⟩
/-! of. -/
theorem blkUnder {w W : World} {b : Nat} {o : Obj} (h : w.heap[b]? = some o) (hb : Below w.heap.size w W) : W.heap[b]? = some o := (hb.block b (Array.getElem?_eq_some_iff.1 h).1).trans h
theorem blkAlloc {w : World} {b : Nat} {o : Obj} (o' : Obj) (h : w.heap[b]? = some o) : (w.alloc o').heap[b]? = some o := (heap_alloc_old w o' (Array.getElem?_eq_some_iff.1 h).1).trans h
theorem blkNew (w : World) (cs : Array Value) (t : TypeId) : (w.alloc (.cells cs t)).heap[w.heap.size]? = some (.cells cs t (0, 0)) := heap_alloc_new w _
theorem isSome_of {w : World} {a : Addr} {v : Value} (h : w.cell? a = some v) : (w.cell? a).isSome = true := by rw [h]; rfl
def splitV (s : Int) (x : LooseD) : Value := .agg #[.int .i64 s, .int .i64 x.up, .int .i64 x.down, .int .i64 x.t0, .int .i64 x.t1]
set_option maxRecDepth 100000 in
set_option maxHeartbeats 4000000 in
theorem rof_any (num den : Int) (w : World) (h0 : num ≠ 0) (h1 : -9223372036854775807 ≤ num) (h2 : num ≤ 9223372036854775807) (k0 : den ≠ 0) (k1 : -9223372036854775807 ≤ den) (k2 : den ≤ 9223372036854775807) :
    Calls Tryd.prog 45 #[.int .i64 num, .int .i64 den] w fun e w' => e = .returned (splitV (sgnI num * sgnI den) (looseA num den)) ∧ Below w.heap.size w w' := by
  obtain ⟨x, hx⟩ : ∃ x : Int, (num.natAbs : Int) = x := ⟨_, rfl⟩
  obtain ⟨y, hy⟩ : ∃ y : Int, (den.natAbs : Int) = y := ⟨_, rfl⟩
  have x0 : 0 < x := by omega
  have x1 : x ≤ 9223372036854775807 := by omega
  have y0 : 0 < y := by omega
  have y1 : y ≤ 9223372036854775807 := by omega
  have a1 := splitF_bd (p := 2) (by omega) 64 x (by omega)
  have b1 := splitF_bd (p := 2) (by omega) 64 y (by omega)
  have ap := splitF_pos (p := 2) (by omega) 64 x x0
  have bp := splitF_pos (p := 2) (by omega) 64 y y0
  obtain ⟨ka, ma, ha⟩ : ∃ ka ma, splitF 2 64 x = (ka, ma) := ⟨_, _, rfl⟩
  obtain ⟨kb, mb, hb⟩ : ∃ kb mb, splitF 2 64 y = (kb, mb) := ⟨_, _, rfl⟩
  rw [ha] at a1 ap
  rw [hb] at b1 bp
  simp only at a1 b1 ap bp
  have c1 := splitF_bd (p := 5) (by omega) 64 ma (by omega)
  have d1 := splitF_bd (p := 5) (by omega) 64 mb (by omega)
  have cp := splitF_pos (p := 5) (by omega) 64 ma ap
  have dp := splitF_pos (p := 5) (by omega) 64 mb bp
  obtain ⟨kc, mc, hc⟩ : ∃ kc mc, splitF 5 64 ma = (kc, mc) := ⟨_, _, rfl⟩
  obtain ⟨kd, md, hd⟩ : ∃ kd md, splitF 5 64 mb = (kd, md) := ⟨_, _, rfl⟩
  rw [hc] at c1 cp
  rw [hd] at d1 dp
  simp only at c1 d1 cp dp
  have hgp : 0 < Int.gcd mc md := Int.gcd_pos_of_ne_zero_left _ (by omega)
  have hgl : Int.gcd mc md ≤ mc.natAbs := Nat.le_of_dvd (by omega) (Nat.gcd_dvd_left _ _)
  obtain ⟨g, hg⟩ : ∃ g : Nat, Int.gcd mc md = g := ⟨_, rfl⟩
  have HE : Hid (looseA num den = ⟨mc.tdiv g, md.tdiv g, (ka : Int) - kb, (kc : Int) - kd⟩) := by
    show _ = _
    have hgs : gsign mc md = (g : Int) := by rw [gsign, if_neg (by omega), hg]
    simp only [looseA, hx, hy, loosenI, ha, hb, hc, hd, hgs]
  have HA := Lib.hid ha
  have HB := Lib.hid hb
  have HC := Lib.hid hc
  have HD := Lib.hid hd
  have HX := Lib.hid hx
  have HY := Lib.hid hy
  have HG := Lib.hid hg
  rw [hg] at hgp hgl
  have ma1 : 0 < ma ∧ ma ≤ 9223372036854775807 := by omega
  have mb1 : 0 < mb ∧ mb ≤ 9223372036854775807 := by omega
  have mc1 : 0 < mc ∧ mc ≤ 9223372036854775807 := by omega
  have md1 : 0 < md ∧ md ≤ 9223372036854775807 := by omega
  have hka : (0 : Int) ≤ ka ∧ (ka : Int) ≤ 64 := by omega
  have hkb : (0 : Int) ≤ kb ∧ (kb : Int) ≤ 64 := by omega
  have hkc : (0 : Int) ≤ kc ∧ (kc : Int) ≤ 64 := by omega
  have hkd : (0 : Int) ≤ kd ∧ (kd : Int) ≤ 64 := by omega
  have hg63 : (g : Int) ≤ 9223372036854775807 := by omega
  have hgz : ((g : Int) == 0) = false := by simp; omega
  have u1 := tdiv_bd mc g hgp
  have u2 := tdiv_bd md g hgp
  obtain ⟨sx, hsx⟩ : ∃ s, sgnI num = s := ⟨_, rfl⟩
  obtain ⟨sy, hsy⟩ : ∃ s, sgnI den = s := ⟨_, rfl⟩
  have hnum : (num = x ∧ sx = 1) ∨ (num = -x ∧ sx = -1) := by
    rw [← hsx, sgnI]
    split
    · exact .inr ⟨by omega, rfl⟩
    · exact .inl ⟨by omega, rfl⟩
  have hden : (den = y ∧ sy = 1) ∨ (den = -y ∧ sy = -1) := by
    rw [← hsy, sgnI]
    split
    · exact .inr ⟨by omega, rfl⟩
    · exact .inl ⟨by omega, rfl⟩
  have HO : Hid (splitV (sgnI num * sgnI den) (looseA num den) = .agg #[.int .i64 (sx * sy), .int .i64 (mc.tdiv g), .int .i64 (md.tdiv g), .int .i64 ((ka : Int) - kb), .int .i64 ((kc : Int) - kd)]) := by
    show _ = _
    rw [HE.out, hsx, hsy]
    rfl
  obtain ⟨V, hV⟩ : ∃ V, splitV (sgnI num * sgnI den) (looseA num den) = V := ⟨_, rfl⟩
  rw [hV]
  have HO2 : Hid (V = .agg #[.int .i64 (sx * sy), .int .i64 (mc.tdiv g), .int .i64 (md.tdiv g), .int .i64 ((ka : Int) - kb), .int .i64 ((kc : Int) - kd)]) := by show _ = _; rw [← hV]; exact HO.out
  clear HO hV hsx hsy HX HY hx hy ha hb hc hd hg HE
  obtain ⟨ma0, ma1⟩ := ma1
  obtain ⟨mb0, mb1⟩ := mb1
  obtain ⟨mc0, mc1⟩ := mc1
  obtain ⟨md0, md1⟩ := md1
  rcases hnum with ⟨rfl, rfl⟩ | ⟨rfl, rfl⟩ <;> rcases hden with ⟨rfl, rfl⟩ | ⟨rfl, rfl⟩
  all_goals
    clear h0 h1 h2 k0 k1 k2 a1 b1 c1 d1
    try have dx : decide (num < 0) = false := by simp; omega
    try have dy : decide (den < 0) = false := by simp; omega
    try have dx : decide (-x < 0) = true := by simp; omega
    try have dy : decide (-y < 0) = true := by simp; omega
  all_goals
    go_enter Tryd.func45, Tryd.ntmps45
    go_wp2_with fail
    refine (rsplit_any _ 2 (.inl rfl) _ (by omega) (by omega) (by omega)).mono ?_
    rintro e w1 ⟨rfl, hb1⟩
    first
      | rw [HA.out]
      | rw [show (0 : Int) - -x = x by omega, HA.out]
    have A1 : w1.heap[w.heap.size]? = some (.cells #[.int .i64 0, .int .i64 0, .int .i64 0, .int .i64 0, .int .i64 0] 92 (0, 0)) := blkUnder (two_new w _ _ _ _).1 hb1
    have B1 : ∃ sg : Int, w1.heap[w.heap.size + 1]? = some (.cells #[.int .i64 sg, .int .i64 0, .int .i64 0, .int .i64 0, .int .i64 0] 92 (0, 0)) ∧ Hid (V = .agg #[.int .i64 sg, .int .i64 (mc.tdiv g), .int .i64 (md.tdiv g), .int .i64 ((ka : Int) - kb), .int .i64 ((kc : Int) - kd)]) :=
      ⟨_, blkUnder (two_new w _ _ _ _).2 hb1, by show _ = _; rw [HO2.out]; rfl⟩
    have W1 : Hid (Below w.heap.size w w1) := (((Below.refl _ _).alloc (Nat.le_refl _) _).alloc (by simp) _).trans (hb1.mono (by simp only [World.size_alloc]; omega))
    obtain ⟨sg, B1, HV⟩ := B1
    have HA1 := Lib.hid A1
    have HB1 := Lib.hid B1
    clear A1 B1 hb1 HO2
    go_wp2_with fail
    refine (rsplit_any _ 5 (.inr rfl) _ (by omega) (by omega) (by omega)).mono ?_
    rintro e w2 ⟨rfl, hb2⟩
    rw [HC.out]
    have HC2 := Lib.hid (blkUnder (blkNew w1 _ _) hb2)
    have HA2 := Lib.hid (blkUnder (blkAlloc _ HA1.out) hb2)
    have HB2 := Lib.hid (blkUnder (blkAlloc _ HB1.out) hb2)
    have W2 : Hid (Below w.heap.size w w2) := (W1.out.alloc W1.out.size _).trans (hb2.mono (by have := W1.out.size; simp; omega))
    clear HA1 HB1 W1 hb2
    go_wp2_with fail
    refine (rsplit_any _ 2 (.inl rfl) _ (by omega) (by omega) (by omega)).mono ?_
    rintro e w3 ⟨rfl, hb3⟩
    first
      | rw [HB.out]
      | rw [show (0 : Int) - -y = y by omega, HB.out]
    have HD3 := Lib.hid (blkUnder (blkNew w2 _ _) hb3)
    have HC3 := Lib.hid (blkUnder (blkAlloc _ HC2.out) hb3)
    have HA3 := Lib.hid (blkUnder (blkAlloc _ HA2.out) hb3)
    have HB3 := Lib.hid (blkUnder (blkAlloc _ HB2.out) hb3)
    have W3 : Hid (Below w.heap.size w w3) := (W2.out.alloc W2.out.size _).trans (hb3.mono (by have := W2.out.size; simp; omega))
    clear HA2 HB2 HC2 W2 hb3
    go_wp2_with fail
    refine (rsplit_any _ 5 (.inr rfl) _ (by omega) (by omega) (by omega)).mono ?_
    rintro e w4 ⟨rfl, hb4⟩
    rw [HD.out]
    have HE4 := Lib.hid (blkUnder (blkNew w3 _ _) hb4)
    have HD4 := Lib.hid (blkUnder (blkAlloc _ HD3.out) hb4)
    have HC4 := Lib.hid (blkUnder (blkAlloc _ HC3.out) hb4)
    have HA4 := Lib.hid (blkUnder (blkAlloc _ HA3.out) hb4)
    have HB4 := Lib.hid (blkUnder (blkAlloc _ HB3.out) hb4)
    have W4 : Hid (Below w.heap.size w w4) := (W3.out.alloc W3.out.size _).trans (hb4.mono (by have := W3.out.size; simp; omega))
    clear HA3 HB3 HC3 HD3 W3 hb4
    obtain ⟨⟨p0, p1⟩, l1⟩ := And.intro (And.intro (cellB HC4.out (j := 0) rfl) (cellB HC4.out (j := 1) rfl)) (Array.getElem?_eq_some_iff.1 HC4.out).1
    obtain ⟨⟨q0, q1⟩, l2⟩ := And.intro (And.intro (cellB HD4.out (j := 0) rfl) (cellB HD4.out (j := 1) rfl)) (Array.getElem?_eq_some_iff.1 HD4.out).1
    obtain ⟨⟨r0, r1⟩, l3⟩ := And.intro (And.intro (cellB HE4.out (j := 0) rfl) (cellB HE4.out (j := 1) rfl)) (Array.getElem?_eq_some_iff.1 HE4.out).1
    obtain ⟨t0, t1, t2, t3, t4⟩ := And.intro (cellB HB4.out (j := 0) rfl) (And.intro (cellB HB4.out (j := 1) rfl) (And.intro (cellB HB4.out (j := 2) rfl) (And.intro (cellB HB4.out (j := 3) rfl) (cellB HB4.out (j := 4) rfl))))
    obtain ⟨g0, g1, g2, g3, g4⟩ := And.intro (freeB HB4.out (j := 0)) (And.intro (freeB HB4.out (j := 1)) (And.intro (freeB HB4.out (j := 2)) (And.intro (freeB HB4.out (j := 3)) (freeB HB4.out (j := 4)))))
    obtain ⟨s0, s1, s2, s3, s4⟩ := And.intro (cellB HA4.out (j := 0) rfl) (And.intro (cellB HA4.out (j := 1) rfl) (And.intro (cellB HA4.out (j := 2) rfl) (And.intro (cellB HA4.out (j := 3) rfl) (cellB HA4.out (j := 4) rfl))))
    obtain ⟨o0, o1, o2, o3, o4⟩ := And.intro (freeB HA4.out (j := 0)) (And.intro (freeB HA4.out (j := 1)) (And.intro (freeB HA4.out (j := 2)) (And.intro (freeB HA4.out (j := 3)) (freeB HA4.out (j := 4)))))
    have l5 : w.heap.size + 1 < w4.heap.size := (Array.getElem?_eq_some_iff.1 HB4.out).1
    have l6 : w.heap.size < w4.heap.size := by omega
    go_wp2_with fail
    refine (rgcd_any mc md _ (by omega) (by omega) (by omega) (by omega)).mono ?_
    rintro e w5 ⟨rfl, rfl⟩
    rw [HG.out]
    go_wp2_with fail
    refine bodyPost_ret (v := .agg #[.int .i64 sg, .int .i64 (mc.tdiv g), .int .i64 (md.tdiv g), .int .i64 ((ka : Int) - kb), .int .i64 ((kc : Int) - kd)]) (results_row Tryd.results45 _ _ w.heap.size [_, _, _, _, _] _ rfl (fun j u hu => cellAlloc _ (setRowL_range w.heap.size [_, _, _, _, _] 0 _ (fun i h1 h2 => set_some (set_some (set_some (set_some (by
        have h3 : i = 0 ∨ i = 1 ∨ i = 2 ∨ i = 3 ∨ i = 4 := by simp only [List.length_cons, List.length_nil] at h2; omega
        rcases h3 with rfl | rfl | rfl | rfl | rfl <;> exact isSome_of (cellB HA4.out rfl)))))) j u hu)) Tryd.underlying92 rfl (by kernel_rfl)) rfl ⟨by rw [HV.out], ?_⟩
    refine Below.alloc ?_ (by simp only [World.size_setCell]; omega) _
    iterate 9 refine Below.setCell ?_ (by first | exact Nat.le_refl _ | exact Nat.le_succ _) _
    exact W4.out
end Go.Proofs.YtiinppicdhidhaaDoor
