/-
  NearGrows: the walk.
-/
import Derived.Test.YtaakaajcpjiccaaDoorNaVyXa
import Derived.Test.YtaakaajcpjiccaaDoorNa42
set_option linter.unusedVariables false
set_option linter.unusedSimpArgs false
namespace Go.Proofs.YtaakaajcpjiccaaDoor
open Go.RowKit
open Go.Proofs

theorem grow_near (n k : Int) (s : ByteArray) (hs : s.size ≤ 1000) (w : World) (hL : Laid w) : ∀ X, Below w.heap.size w X →
    Calls Tryd.prog 12 #[.int .i64 n, .string s, .int .i64 k] X fun e X1 => ∃ v, e = .returned v ∧ Below w.heap.size w X1 ∧ ((v = .slice none 0 0 ∧ nearN n s k = []) ∨ ∃ g c, v = .slice (some ⟨g, 0, none⟩) (nearN n s k).length c ∧ (nearN n s k).length ≤ c ∧ NeAt X1 (some ⟨g, 0, none⟩) (nearN n s k)) ∧ Below X.heap.size X X1 := fun X hX =>
  (near_any n k s hs X (laid_under hL hX)).mono (by
    rintro e X1 ⟨v, rfl, ho, hb⟩
    exact ⟨v, rfl, hX.trans (hb.mono hX.size), near_own ho, hb⟩)
set_option maxRecDepth 100000 in
set_option maxHeartbeats 2000000 in
theorem nearGrows_any (n : Int) (s : ByteArray) (k : Int) (w : World) (hL : Laid w) : Calls Tryd.prog 6 #[.int .i64 n, .string s, .int .i64 k] w fun e w' => e = .returned (.bool true) ∧ Below w.heap.size w w' := by
  have hs : (shortS s 20).size ≤ 1000 := by have := shortS_le s 20; omega
  have HAW := Lib.hid (awake_any w hL)
  have HSH := Lib.hid (fun X => short_any s 20 X (by omega))
  have HRE := Lib.hid (fun X => rest19_any n 5 X (by omega) (by omega))
  have HRK := Lib.hid (fun X => rest19_any k 3 X (by omega) (by omega))
  obtain ⟨m, hm⟩ : ∃ m, n % 5 = m := ⟨_, rfl⟩
  obtain ⟨d, hd⟩ : ∃ d, k % 3 = d := ⟨_, rfl⟩
  have hm0 : 0 ≤ m ∧ m < 5 := by omega
  have hd0 : 0 ≤ d ∧ d < 3 := by omega
  rw [hm] at HRE
  rw [hd] at HRK
  obtain ⟨hAB, hT, hG⟩ := grow_plain (1 + m) (by omega) (shortS s 20) d hd0
  have HN0 := Lib.hid (grow_near (1 + m) d (shortS s 20) hs w hL)
  have HN1 := Lib.hid (grow_near (1 + m) (d + 1) (shortS s 20) hs w hL)
  have HBL := nearN_le (1 + m) (d + 1) (shortS s 20)
  have HRA : Hid (∀ x X, x.size ≤ 16 → Below w.heap.size w X → Calls Tryd.prog 19 #[.int .i64 (1 + m), .string x] X fun e X1 => e = .returned (rankV (1 + m) x) ∧ Below w.heap.size w X1 ∧ Below X.heap.size X X1) := fun x X hx hX =>
    (rank_any (1 + m) x (Nat.le_trans hx (by decide)) X (laid_under hL hX)).mono (by rintro e X1 ⟨rfl, hb⟩; exact ⟨rfl, hX.trans (hb.mono hX.size), hb⟩)
  have HDI : Hid (∀ x X, x.size ≤ 16 → Below w.heap.size w X → Calls Tryd.prog 18 #[.string (shortS s 20), .string x] X fun e X1 => e = .returned (.int .i64 (dist (shortS s 20).toList x.toList : Nat)) ∧ Below w.heap.size w X1 ∧ Below X.heap.size X X1) := fun x X hx hX =>
    (distance_any (shortS s 20) x X (by omega) (by omega)).mono (by rintro e X1 ⟨rfl, hb⟩; exact ⟨rfl, hX.trans (hb.mono hX.size), hb⟩)
  have HT := Lib.hid hT
  have HG := Lib.hid hG
  clear hL hm hd hs hT hG
  generalize nearN (1 + m) (shortS s 20) d = A at *
  generalize nearN (1 + m) (shortS s 20) (d + 1) = B at *
  generalize shortS s 20 = t at *
  obtain ⟨K, rfl⟩ : ∃ K : Nat, d = (K : Int) := ⟨d.toNat, by omega⟩
  rw [Int.toNat_natCast] at HG
  have hd1 : K < 3 := by omega
  obtain ⟨la, hla⟩ : ∃ l, A.length = l := ⟨_, rfl⟩
  obtain ⟨lb, hlb⟩ : ∃ l, B.length = l := ⟨_, rfl⟩
  have HLA := Lib.hid hla
  have HLB := Lib.hid hlb
  rw [hla] at HN0 HT HG hAB
  rw [hlb] at HN1 HBL hAB
  clear hla hlb
  have hw1 : IntKind.i64.wrap ((K : Int) + 1) = (K : Int) + 1 := by rw [IntKind.wrap_i64]; omega
  go_enter Tryd.func6, Tryd.ntmps6
  go_wp2_with (first
    | (go_at_call 8; refine HAW.out.mono ?_; rintro e w1 ⟨rfl, hb⟩; have HB1 := Lib.hid hb; clear hb)
    | (go_at_call 9; refine (HSH.out _).mono ?_; rintro e w' ⟨rfl, hw⟩; rw [hw]; clear hw))
  refine (HRE.out _).mono ?_
  rintro e w' ⟨rfl, hw⟩
  rw [hw]
  clear hw
  go_wp2_with fail
  refine (HRK.out _).mono ?_
  rintro e w' ⟨rfl, hw⟩
  rw [hw]
  clear hw
  go_wp2_with fail
  refine (HN0.out w1 HB1.out).mono ?_
  rintro e w2 ⟨va, rfl, hb, hva, -⟩
  have HB2 := Lib.hid hb
  have HVA : Hid (∃ a c, va = .slice a la c ∧ NeAt w2 a A) := by
    rcases hva with ⟨rfl, hz⟩ | ⟨g, c, rfl, _, hn⟩
    · refine ⟨none, 0, ?_, .inl hz⟩
      rw [← HLA.out, hz]; rfl
    · exact ⟨_, c, rfl, hn⟩
  clear hb hva
  obtain ⟨aa, ca, rfl, hna⟩ := HVA.out
  have HNA := Lib.hid hna
  clear hna HVA
  go_wp2_with fail
  refine (HN1.out w2 HB2.out).mono ?_
  rintro e w3 ⟨vb, rfl, hb, hvb, hb23⟩
  have HB3 := Lib.hid hb
  have HNA3 := Lib.hid (HNA.out.below hb23)
  clear hb hb23 HNA
  rcases hvb with ⟨rfl, hz⟩ | ⟨g, c, rfl, hc, hn⟩
  · have h0 : lb = 0 := by rw [← HLB.out, hz]; rfl
    have h1 : la = 0 := by omega
    have hS := same_yes A none aa 0 ca w3 (by rw [HLA.out]; omega) (.inl (List.eq_nil_of_length_eq_zero (by rw [HLA.out]; exact h1))) HNA3.out
    rw [HLA.out] at hS
    subst h0 h1
    have HS := Lib.hid hS
    clear hS HNA3
    go_wp2_with fail
    refine HS.out.mono ?_
    rintro e w4 ⟨rfl, hb⟩
    have HB4 := Lib.hid (HB3.out.trans (hb.mono HB3.out.size))
    clear hb HS
    go_wp2_with fail
    go_loopw [13, 14, 15] (fun i _ _ wr => i = .int .i64 0 ∧ Below w4.heap.size w4 wr) (fun i _ _ _ => 0 - (intOf i).toNat)
    case atStart => exact ⟨rfl, Below.refl _ _⟩
    case round =>
      obtain ⟨rfl, hbw⟩ := hrel
      have HBW := Lib.hid hbw
      clear hbw
      go_wp2_with fail
      go_ret
      exact ⟨rfl, HB4.out.trans (HBW.out.mono HB4.out.size)⟩
  · have hS := same_yes A (some ⟨g, 0, none⟩) aa c ca w3 (by rw [HLA.out]; omega) (by have := hn.take la (by rw [HLB.out]; omega); rw [HT.out] at this; exact this) HNA3.out
    rw [HLA.out] at hS
    have HS := Lib.hid hS
    have HNB := Lib.hid hn
    clear hn hS HNA3
    go_wp2_with fail
    refine HS.out.mono ?_
    rintro e w4 ⟨rfl, hb⟩
    have HB4 := Lib.hid (HB3.out.trans (hb.mono HB3.out.size))
    have HNB4 := Lib.hid (HNB.out.below hb)
    clear hb HNB HS
    go_wp2_with fail
    go_loopw [13, 14, 15] (fun i _ _ wr => ∃ q : Nat, q ≤ lb ∧ i = .int .i64 (q : Int) ∧ Below w4.heap.size w4 wr) (fun i _ _ _ => lb - (intOf i).toNat)
    case atStart => exact ⟨0, by omega, rfl, Below.refl _ _⟩
    case round =>
      obtain ⟨q, hq, rfl, hbw⟩ := hrel
      have HBW := Lib.hid hbw
      by_cases hlt : q < lb
      · have hkl : q < B.length := by rw [HLB.out]; exact hlt
        have hq1 : (q : Int) < (lb : Int) := by omega
        have hg := HG.out q hkl
        have HN5 := Lib.hid (HNB4.out.below hbw)
        obtain ⟨g1, hg1, p0, p1, p2⟩ := HN5.out.cell q hkl
        simp only [Option.some.injEq, Addr.mk.injEq, and_true] at hg1
        subst hg1
        obtain ⟨x, hx⟩ : ∃ x, B[q] = x := ⟨_, rfl⟩
        rw [hx] at hg p0 p1 p2
        obtain ⟨x1, x2, x3⟩ := x
        obtain ⟨ha, hf, hsz, hla, hah⟩ := hg
        simp only at p0 p1 p2 ha hf hsz hla
        have hR := HRA.out x1 wr hsz (HB4.out.trans (hbw.mono HB4.out.size))
        rw [ha] at hR
        have HR := Lib.hid hR
        have HF := Lib.hid hf
        have HSZ := Lib.hid hsz
        have HAH := Lib.hid hah
        have HLT := Lib.hid hla
        clear hR ha hf hsz hla hah hx hbw
        go_wp2_with fail
        refine HR.out.mono ?_
        rintro e w5 ⟨rfl, -, hb⟩
        have HB5 := Lib.hid (HBW.out.trans (hb.mono HBW.out.size))
        have c0 := cell_under p0 hb
        have c1 := cell_under p1 hb
        have c2 := cell_under p2 hb
        have HN6 := Lib.hid (HN5.out.below hb)
        have hD : Hid (∀ X, Below w5.heap.size w5 X → Calls Tryd.prog 18 #[.string t, .string x1] X fun e X1 => e = .returned (.int .i64 (x2 : Int)) ∧ Hid (Below w5.heap.size w5 X1) ∧ X1.cell? ⟨g, q * 3, none⟩ = some (.string x1) ∧ X1.cell? ⟨g, q * 3 + 1, none⟩ = some (.int .i64 (x2 : Int)) ∧ X1.cell? ⟨g, q * 3 + 2, none⟩ = some (.int .i64 (x3 : Int))) := fun X hX =>
          (HDI.out x1 X HSZ.out (HB4.out.trans (((HB5.out.trans (hX.mono HB5.out.size))).mono HB4.out.size))).mono (by
            rintro e X1 ⟨rfl, -, hb⟩
            have h5 := hX.trans (hb.mono hX.size)
            exact ⟨by rw [HF.out], h5, cell_under c0 h5, cell_under c1 h5, cell_under c2 h5⟩)
        have hx3 : ((x3 : Int) != (x3 : Int)) = false := by simp
        have hx2 : ((x2 : Int) != (x2 : Int)) = false := by simp
        clear hb p0 p1 p2 HN5 HR
        by_cases hql : la ≤ q
        · have hx4 : ((x2 : Int) != (K : Int) + 1) = false := by have := HLT.out hql; simp; omega
          have hql1 : (la : Int) ≤ (q : Int) := by omega
          go_wp2_with fail
          go_region_held3 (fun w' => w'.cell? ⟨g, q * 3, none⟩ = some (.string x1) ∧ w'.cell? ⟨g, q * 3 + 1, none⟩ = some (.int .i64 (x2 : Int)) ∧ w'.cell? ⟨g, q * 3 + 2, none⟩ = some (.int .i64 (x3 : Int)))
            (first | ((repeat' apply And.intro) <;> assumption) | go_keep)
            ((go_at_call 18; refine (hD.out _ (by first | exact Below.refl _ _ | exact (Below.refl _ _).drew | exact below_drewN (Below.refl _ _) _)).mono ?_; rintro e Y ⟨rfl, hbY, y0, y1, y2⟩))
          have HBY := Lib.hid (HB5.out.trans (hbY.out.mono HB5.out.size))
          have HNY := Lib.hid (HN6.out.below hbY.out)
          clear hbY c0 c1 c2 y0
          rcases Nat.eq_zero_or_pos q with hq0 | hq0
          · have hqi : (q : Int) ≤ 0 := by omega
            go_wp2_with fail
            go_quiet (fail)
            go_wp2_with fail
            go_roundw
            case rel => exact ⟨q + 1, by omega, by first | (simp; omega) | simp, below_drewN HBY.out _⟩
            case measure => simp [intOf]; omega
          · obtain ⟨r, hr⟩ : ∃ r, q = r + 1 := ⟨q - 1, by omega⟩
            have hqi : (0 : Int) < (q : Int) := by omega
            have hrl : r < B.length := by omega
            have hri : (r : Int) < (lb : Int) := by omega
            have hsub : IntKind.i64.wrap ((q : Int) - 1) = (r : Int) := by rw [IntKind.wrap_i64]; omega
            obtain ⟨g2, hg2, -, z1, z2⟩ := HNY.out.cell r hrl
            simp only [Option.some.injEq, Addr.mk.injEq, and_true] at hg2
            subst hg2
            have hzx := HAH.out r hrl (by omega)
            obtain ⟨z, hz⟩ : ∃ z, B[r] = z := ⟨_, rfl⟩
            rw [hz] at z1 z2 hzx
            obtain ⟨z1', z2', z3'⟩ := z
            simp only at z1 z2 hzx
            clear hz hr hrl
            rcases hzx with hzx | ⟨hzx, hzy⟩
            · have hle1 : decide ((x2 : Int) < (z2' : Int)) = false := decide_eq_false (by omega)
              have hle0 : (z2' : Int) ≤ (x2 : Int) := by omega
              have hne1 : ¬ z2' = x2 := by omega
              have hne2 : ((z2' : Int) = (x2 : Int)) = False := eq_false (by omega)
              have hne3 : (z2' == x2) = false := by simp; omega
              have hne4 : decide (z2' = x2) = false := decide_eq_false (by omega)
              have hne5 : decide ((z2' : Int) = (x2 : Int)) = false := decide_eq_false (by omega)
              have hlt5 : z2' < x2 := by omega
              have hlt6 : decide (x2 < z2') = false := decide_eq_false (by omega)
              have heq1 : ((z2' : Int) == (x2 : Int)) = false := by simp; omega
              go_wp2_with fail
              go_quiet (fail)
              go_wp2_with fail
              go_roundw
              case rel => exact ⟨q + 1, by omega, by first | (simp; omega) | simp, below_drewN HBY.out _⟩
              case measure => simp [intOf]; omega
            · have hle1 : decide ((x2 : Int) < (z2' : Int)) = false := decide_eq_false (by omega)
              have hle0 : (z2' : Int) ≤ (x2 : Int) := by omega
              have heq1 : ((z2' : Int) == (x2 : Int)) = true := by simp; omega
              have hle2 : (z3' : Int) < (x3 : Int) := by omega
              have hle3 : decide ((x3 : Int) ≤ (z3' : Int)) = false := decide_eq_false (by omega)
              go_wp2_with fail
              go_quiet (fail)
              go_wp2_with fail
              go_roundw
              case rel => exact ⟨q + 1, by omega, by first | (simp; omega) | simp, below_drewN HBY.out _⟩
              case measure => simp [intOf]; omega
        · have hql1 : (q : Int) < (la : Int) := by omega
          have hql2 : decide ((la : Int) ≤ (q : Int)) = false := decide_eq_false (by omega)
          have hql3 : decide (la ≤ q) = false := decide_eq_false (by omega)
          have hql4 : ((la : Int) ≤ (q : Int)) = False := eq_false (by omega)
          have hql6 : (la ≤ q) = False := eq_false (by omega)
          have hql7 : decide ((q : Int) < (la : Int)) = true := decide_eq_true (by omega)
          have hql8 : q < la := by omega
          go_wp2_with fail
          refine wp_region_held_drew (S := fun w' => w'.cell? ⟨g, q * 3, none⟩ = some (.string x1) ∧ w'.cell? ⟨g, q * 3 + 1, none⟩ = some (.int .i64 (x2 : Int)) ∧ w'.cell? ⟨g, q * 3 + 2, none⟩ = some (.int .i64 (x3 : Int))) (by kernel_rfl) ⟨c0, c1, c2⟩ (fun hS => ?_)
          clear c0 c1 c2
          show wpAnyH Tryd.prog .any _ _ _ 42 #[false, false, false, false, false, false, false, false, false, false, false, false, false, false, false, false, false, false, false, false, false, false, false, false, false, false, false, false, false, false, false, false, false, false, false, false, false, false, false, false, false, false] _ w5.drew
          refine take_plain 0 60 (.bool true) rfl rfl (by kernel_rfl) (by kernel_rfl) (by kernel_rfl) (fun _ _ _ h => h) (.inl ⟨rfl, fun W' hW => ?_⟩) hS ?_
          · obtain ⟨h2, h3, h4⟩ := hW
            clear hS
            first | (go_simp; done) | (go_simp; with_reducible rfl) | (go_simp; simp; omega)
          simp only [List.set_cons_zero, List.set_cons_succ]
          refine take_plain 1 61 (.bool false) rfl rfl (by kernel_rfl) (by kernel_rfl) (by kernel_rfl) (fun _ _ _ h => h) (.inl ⟨rfl, fun W' hW => ?_⟩) hS ?_
          · obtain ⟨h2, h3, h4⟩ := hW
            clear hS
            first | (go_simp; done) | (go_simp; with_reducible rfl) | (go_simp; simp; omega)
          simp only [List.set_cons_zero, List.set_cons_succ]
          refine take_plain 2 62 (.bool false) rfl rfl (by kernel_rfl) (by kernel_rfl) (by kernel_rfl) (fun _ _ _ h => h) (.inl ⟨rfl, fun W' hW => ?_⟩) hS ?_
          · obtain ⟨h2, h3, h4⟩ := hW
            clear hS
            first | (go_simp; done) | (go_simp; with_reducible rfl) | (go_simp; simp; omega)
          simp only [List.set_cons_zero, List.set_cons_succ]
          refine take_plain 3 63 (.int .i64 (x3 : Int)) rfl rfl (by kernel_rfl) (by kernel_rfl) (by kernel_rfl) (fun _ _ _ h => h) (.inl ⟨rfl, fun W' hW => ?_⟩) hS ?_
          · obtain ⟨h2, h3, h4⟩ := hW
            clear hS
            first | (go_simp; done) | (go_simp; with_reducible rfl) | (go_simp; simp; omega)
          simp only [List.set_cons_zero, List.set_cons_succ]
          refine take_plain 4 64 (.slice (some ⟨g, 0, none⟩) lb c) rfl rfl (by kernel_rfl) (by kernel_rfl) (by kernel_rfl) (fun _ _ _ h => h) (.inl ⟨rfl, fun W' hW => ?_⟩) hS ?_
          · obtain ⟨h2, h3, h4⟩ := hW
            clear hS
            first | (go_simp; done) | (go_simp; with_reducible rfl) | (go_simp; simp; omega)
          simp only [List.set_cons_zero, List.set_cons_succ]
          refine take_plain 5 65 (.int .i64 (q : Int)) rfl rfl (by kernel_rfl) (by kernel_rfl) (by kernel_rfl) (fun _ _ _ h => h) (.inl ⟨rfl, fun W' hW => ?_⟩) hS ?_
          · obtain ⟨h2, h3, h4⟩ := hW
            clear hS
            first | (go_simp; done) | (go_simp; with_reducible rfl) | (go_simp; simp; omega)
          simp only [List.set_cons_zero, List.set_cons_succ]
          refine take_plain 6 66 (.pointer (some ⟨g, q * 3, none⟩)) rfl rfl (by kernel_rfl) (by kernel_rfl) (by kernel_rfl) (fun _ _ _ h => h) (.inl ⟨rfl, fun W' hW => ?_⟩) hS ?_
          · obtain ⟨h2, h3, h4⟩ := hW
            clear hS
            first | (go_simp; done) | (go_simp; with_reducible rfl) | (go_simp; simp; omega)
          simp only [List.set_cons_zero, List.set_cons_succ]
          refine take_plain 7 67 (.pointer (some ⟨g, q * 3 + 2, none⟩)) rfl rfl (by kernel_rfl) (by kernel_rfl) (by kernel_rfl) (fun _ _ _ h => h) (.inl ⟨rfl, fun W' hW => ?_⟩) hS ?_
          · obtain ⟨h2, h3, h4⟩ := hW
            clear hS
            first | (go_simp; done) | (go_simp; with_reducible rfl) | (go_simp; simp; omega)
          simp only [List.set_cons_zero, List.set_cons_succ]
          refine take_plain 8 68 (.int .i64 (x3 : Int)) rfl rfl (by kernel_rfl) (by kernel_rfl) (by kernel_rfl) (fun _ _ _ h => h) (.inl ⟨rfl, fun W' hW => ?_⟩) hS ?_
          · obtain ⟨h2, h3, h4⟩ := hW
            clear hS
            first | (go_simp; done) | (go_simp; with_reducible rfl) | (go_simp; simp; omega)
          simp only [List.set_cons_zero, List.set_cons_succ]
          refine take_plain 9 69 (.bool false) rfl rfl (by kernel_rfl) (by kernel_rfl) (by kernel_rfl) (fun _ _ _ h => h) (.inl ⟨rfl, fun W' hW => ?_⟩) hS ?_
          · obtain ⟨h2, h3, h4⟩ := hW
            clear hS
            first | (go_simp; done) | (go_simp; with_reducible rfl) | (go_simp; simp; omega)
          simp only [List.set_cons_zero, List.set_cons_succ]
          refine take_plain 10 70 (.bool false) rfl rfl (by kernel_rfl) (by kernel_rfl) (by kernel_rfl) (fun _ _ _ h => h) (.inl ⟨rfl, fun W' hW => ?_⟩) hS ?_
          · obtain ⟨h2, h3, h4⟩ := hW
            clear hS
            first | (go_simp; done) | (go_simp; with_reducible rfl) | (go_simp; simp; omega)
          simp only [List.set_cons_zero, List.set_cons_succ]
          refine take_plain 11 71 (.bool false) rfl rfl (by kernel_rfl) (by kernel_rfl) (by kernel_rfl) (fun _ _ _ h => h) (.inl ⟨rfl, fun W' hW => ?_⟩) hS ?_
          · obtain ⟨h2, h3, h4⟩ := hW
            clear hS
            first | (go_simp; done) | (go_simp; with_reducible rfl) | (go_simp; simp; omega)
          simp only [List.set_cons_zero, List.set_cons_succ]
          refine take_plain 12 72 (.string t) rfl rfl (by kernel_rfl) (by kernel_rfl) (by kernel_rfl) (fun _ _ _ h => h) (.inl ⟨rfl, fun W' hW => ?_⟩) hS ?_
          · obtain ⟨h2, h3, h4⟩ := hW
            clear hS
            first | (go_simp; done) | (go_simp; with_reducible rfl) | (go_simp; simp; omega)
          simp only [List.set_cons_zero, List.set_cons_succ]
          refine take_plain 13 73 (.slice (some ⟨g, 0, none⟩) lb c) rfl rfl (by kernel_rfl) (by kernel_rfl) (by kernel_rfl) (fun _ _ _ h => h) (.inl ⟨rfl, fun W' hW => ?_⟩) hS ?_
          · obtain ⟨h2, h3, h4⟩ := hW
            clear hS
            first | (go_simp; done) | (go_simp; with_reducible rfl) | (go_simp; simp; omega)
          simp only [List.set_cons_zero, List.set_cons_succ]
          refine take_plain 14 74 (.int .i64 (q : Int)) rfl rfl (by kernel_rfl) (by kernel_rfl) (by kernel_rfl) (fun _ _ _ h => h) (.inl ⟨rfl, fun W' hW => ?_⟩) hS ?_
          · obtain ⟨h2, h3, h4⟩ := hW
            clear hS
            first | (go_simp; done) | (go_simp; with_reducible rfl) | (go_simp; simp; omega)
          simp only [List.set_cons_zero, List.set_cons_succ]
          refine take_plain 15 75 (.pointer (some ⟨g, q * 3, none⟩)) rfl rfl (by kernel_rfl) (by kernel_rfl) (by kernel_rfl) (fun _ _ _ h => h) (.inl ⟨rfl, fun W' hW => ?_⟩) hS ?_
          · obtain ⟨h2, h3, h4⟩ := hW
            clear hS
            first | (go_simp; done) | (go_simp; with_reducible rfl) | (go_simp; simp; omega)
          simp only [List.set_cons_zero, List.set_cons_succ]
          refine take_plain 16 76 (.pointer (some ⟨g, q * 3, none⟩)) rfl rfl (by kernel_rfl) (by kernel_rfl) (by kernel_rfl) (fun _ _ _ h => h) (.inl ⟨rfl, fun W' hW => ?_⟩) hS ?_
          · obtain ⟨h2, h3, h4⟩ := hW
            clear hS
            first | (go_simp; done) | (go_simp; with_reducible rfl) | (go_simp; simp; omega)
          simp only [List.set_cons_zero, List.set_cons_succ]
          refine take_plain 17 77 (.string x1) rfl rfl (by kernel_rfl) (by kernel_rfl) (by kernel_rfl) (fun _ _ _ h => h) (.inl ⟨rfl, fun W' hW => ?_⟩) hS ?_
          · obtain ⟨h2, h3, h4⟩ := hW
            clear hS
            first | (go_simp; done) | (go_simp; with_reducible rfl) | (go_simp; simp; omega)
          simp only [List.set_cons_zero, List.set_cons_succ]
          refine take_plain 19 79 (.slice (some ⟨g, 0, none⟩) lb c) rfl rfl (by kernel_rfl) (by kernel_rfl) (by kernel_rfl) (fun _ _ _ h => h) (.inl ⟨rfl, fun W' hW => ?_⟩) hS ?_
          · obtain ⟨h2, h3, h4⟩ := hW
            clear hS
            first | (go_simp; done) | (go_simp; with_reducible rfl) | (go_simp; simp; omega)
          simp only [List.set_cons_zero, List.set_cons_succ]
          refine take_plain 20 80 (.int .i64 (q : Int)) rfl rfl (by kernel_rfl) (by kernel_rfl) (by kernel_rfl) (fun _ _ _ h => h) (.inl ⟨rfl, fun W' hW => ?_⟩) hS ?_
          · obtain ⟨h2, h3, h4⟩ := hW
            clear hS
            first | (go_simp; done) | (go_simp; with_reducible rfl) | (go_simp; simp; omega)
          simp only [List.set_cons_zero, List.set_cons_succ]
          refine take_plain 21 81 (.pointer (some ⟨g, q * 3, none⟩)) rfl rfl (by kernel_rfl) (by kernel_rfl) (by kernel_rfl) (fun _ _ _ h => h) (.inl ⟨rfl, fun W' hW => ?_⟩) hS ?_
          · obtain ⟨h2, h3, h4⟩ := hW
            clear hS
            first | (go_simp; done) | (go_simp; with_reducible rfl) | (go_simp; simp; omega)
          simp only [List.set_cons_zero, List.set_cons_succ]
          refine take_plain 22 82 (.pointer (some ⟨g, q * 3 + 1, none⟩)) rfl rfl (by kernel_rfl) (by kernel_rfl) (by kernel_rfl) (fun _ _ _ h => h) (.inl ⟨rfl, fun W' hW => ?_⟩) hS ?_
          · obtain ⟨h2, h3, h4⟩ := hW
            clear hS
            first | (go_simp; done) | (go_simp; with_reducible rfl) | (go_simp; simp; omega)
          simp only [List.set_cons_zero, List.set_cons_succ]
          refine take_plain 23 83 (.int .i64 (x2 : Int)) rfl rfl (by kernel_rfl) (by kernel_rfl) (by kernel_rfl) (fun _ _ _ h => h) (.inl ⟨rfl, fun W' hW => ?_⟩) hS ?_
          · obtain ⟨h2, h3, h4⟩ := hW
            clear hS
            first | (go_simp; done) | (go_simp; with_reducible rfl) | (go_simp; simp; omega)
          simp only [List.set_cons_zero, List.set_cons_succ]
          refine wpAnyH_ready (rs := [18]) (by kernel_rfl) (by simp) (AllReadyH.cons rfl (fun K' hK => ?_) AllReadyH.nil)
          rw [if_pos (by rfl)]
          clear hS
          go_simp
          refine (hD.out _ (Below.refl _ _).drew).mono ?_
          rintro e Y ⟨rfl, hbY, y0, y1, y2⟩
          have hS : Y.cell? ⟨g, q * 3, none⟩ = some (.string x1) ∧ Y.cell? ⟨g, q * 3 + 1, none⟩ = some (.int .i64 (x2 : Int)) ∧ Y.cell? ⟨g, q * 3 + 2, none⟩ = some (.int .i64 (x3 : Int)) := ⟨y0, y1, y2⟩
          refine hK.out _ _ hS (fun _ => ?_)
          clear hK
          simp only [Act.put, List.setIfInBounds_toArray, List.set_cons_zero, List.set_cons_succ]
          refine take_plain 24 84 (.bool false) rfl rfl (by kernel_rfl) (by kernel_rfl) (by kernel_rfl) (fun _ _ _ h => h) (.inl ⟨rfl, fun W' hW => ?_⟩) hS ?_
          · obtain ⟨h2, h3, h4⟩ := hW
            clear hS
            first | (go_simp; done) | (go_simp; with_reducible rfl) | (go_simp; simp; omega)
          simp only [List.set_cons_zero, List.set_cons_succ]
          refine take_plain 25 85 (.bool false) rfl rfl (by kernel_rfl) (by kernel_rfl) (by kernel_rfl) (fun _ _ _ h => h) (.inl ⟨rfl, fun W' hW => ?_⟩) hS ?_
          · obtain ⟨h2, h3, h4⟩ := hW
            clear hS
            first | (go_simp; done) | (go_simp; with_reducible rfl) | (go_simp; simp; omega)
          simp only [List.set_cons_zero, List.set_cons_succ]
          refine take_plain 26 86 (.bool false) rfl rfl (by kernel_rfl) (by kernel_rfl) (by kernel_rfl) (fun _ _ _ h => h) (.inl ⟨rfl, fun W' hW => ?_⟩) hS ?_
          · obtain ⟨h2, h3, h4⟩ := hW
            clear hS
            first | (go_simp; done) | (go_simp; with_reducible rfl) | (go_simp; simp; omega)
          simp only [List.set_cons_zero, List.set_cons_succ]
          refine take_plain 27 87 (.int .i64 (q : Int)) rfl rfl (by kernel_rfl) (by kernel_rfl) (by kernel_rfl) (fun _ _ _ h => h) (.inl ⟨rfl, fun W' hW => ?_⟩) hS ?_
          · obtain ⟨h2, h3, h4⟩ := hW
            clear hS
            first | (go_simp; done) | (go_simp; with_reducible rfl) | (go_simp; simp; omega)
          simp only [List.set_cons_zero, List.set_cons_succ]
          refine take_plain 28 88 (.slice aa la ca) rfl rfl (by kernel_rfl) (by kernel_rfl) (by kernel_rfl) (fun _ _ _ h => h) (.inl ⟨rfl, fun W' hW => ?_⟩) hS ?_
          · obtain ⟨h2, h3, h4⟩ := hW
            clear hS
            first | (go_simp; done) | (go_simp; with_reducible rfl) | (go_simp; simp; omega)
          simp only [List.set_cons_zero, List.set_cons_succ]
          refine take_plain 29 89 (.int .i64 (la : Int)) rfl rfl (by kernel_rfl) (by kernel_rfl) (by kernel_rfl) (fun _ _ _ h => h) (.inl ⟨rfl, fun W' hW => ?_⟩) hS ?_
          · obtain ⟨h2, h3, h4⟩ := hW
            clear hS
            first | (go_simp; done) | (go_simp; with_reducible rfl) | (go_simp; simp; omega)
          simp only [List.set_cons_zero, List.set_cons_succ]
          refine take_plain 30 90 (.bool false) rfl rfl (by kernel_rfl) (by kernel_rfl) (by kernel_rfl) (fun _ _ _ h => h) (.inl ⟨rfl, fun W' hW => ?_⟩) hS ?_
          · obtain ⟨h2, h3, h4⟩ := hW
            clear hS
            first | (go_simp; done) | (go_simp; with_reducible rfl) | (go_simp; simp; omega)
          simp only [List.set_cons_zero, List.set_cons_succ]
          refine take_plain 31 91 (.bool false) rfl rfl (by kernel_rfl) (by kernel_rfl) (by kernel_rfl) (fun _ _ _ h => h) (.inl ⟨rfl, fun W' hW => ?_⟩) hS ?_
          · obtain ⟨h2, h3, h4⟩ := hW
            clear hS
            first | (go_simp; done) | (go_simp; with_reducible rfl) | (go_simp; simp; omega)
          simp only [List.set_cons_zero, List.set_cons_succ]
          refine take_plain 32 92 undef rfl rfl (by kernel_rfl) (by kernel_rfl) (by kernel_rfl) (fun _ _ _ h => h) (.inr ⟨rfl, rfl⟩) hS ?_
          simp only [List.set_cons_zero, List.set_cons_succ]
          refine take_plain 33 93 undef rfl rfl (by kernel_rfl) (by kernel_rfl) (by kernel_rfl) (fun _ _ _ h => h) (.inr ⟨rfl, rfl⟩) hS ?_
          simp only [List.set_cons_zero, List.set_cons_succ]
          refine take_plain 34 94 undef rfl rfl (by kernel_rfl) (by kernel_rfl) (by kernel_rfl) (fun _ _ _ h => h) (.inr ⟨rfl, rfl⟩) hS ?_
          simp only [List.set_cons_zero, List.set_cons_succ]
          refine take_plain 35 95 undef rfl rfl (by kernel_rfl) (by kernel_rfl) (by kernel_rfl) (fun _ _ _ h => h) (.inr ⟨rfl, rfl⟩) hS ?_
          simp only [List.set_cons_zero, List.set_cons_succ]
          refine take_plain 36 96 undef rfl rfl (by kernel_rfl) (by kernel_rfl) (by kernel_rfl) (fun _ _ _ h => h) (.inr ⟨rfl, rfl⟩) hS ?_
          simp only [List.set_cons_zero, List.set_cons_succ]
          refine take_plain 37 97 undef rfl rfl (by kernel_rfl) (by kernel_rfl) (by kernel_rfl) (fun _ _ _ h => h) (.inr ⟨rfl, rfl⟩) hS ?_
          simp only [List.set_cons_zero, List.set_cons_succ]
          refine take_plain 38 98 undef rfl rfl (by kernel_rfl) (by kernel_rfl) (by kernel_rfl) (fun _ _ _ h => h) (.inr ⟨rfl, rfl⟩) hS ?_
          simp only [List.set_cons_zero, List.set_cons_succ]
          refine take_plain 39 99 undef rfl rfl (by kernel_rfl) (by kernel_rfl) (by kernel_rfl) (fun _ _ _ h => h) (.inr ⟨rfl, rfl⟩) hS ?_
          simp only [List.set_cons_zero, List.set_cons_succ]
          refine take_plain 40 100 (.bool false) rfl rfl (by kernel_rfl) (by kernel_rfl) (by kernel_rfl) (fun _ _ _ h => h) (.inl ⟨rfl, fun W' hW => ?_⟩) hS ?_
          · obtain ⟨h2, h3, h4⟩ := hW
            clear hS
            first | (go_simp; done) | (go_simp; with_reducible rfl) | (go_simp; simp; omega)
          simp only [List.set_cons_zero, List.set_cons_succ]
          refine take_plain 41 101 (.bool false) rfl rfl (by kernel_rfl) (by kernel_rfl) (by kernel_rfl) (fun _ _ _ h => h) (.inl ⟨rfl, fun W' hW => ?_⟩) hS ?_
          · obtain ⟨h2, h3, h4⟩ := hW
            clear hS
            first | (go_simp; done) | (go_simp; with_reducible rfl) | (go_simp; simp; omega)
          simp only [List.set_cons_zero, List.set_cons_succ]
          refine wpAnyH_done (by kernel_rfl) ?_ _
          have HBY := Lib.hid (HB5.out.trans (hbY.out.mono HB5.out.size))
          have HNY := Lib.hid (HN6.out.below hbY.out)
          clear hbY hS y0
          rcases Nat.eq_zero_or_pos q with hq0 | hq0
          · have hqi : (q : Int) ≤ 0 := by omega
            go_wp2_with fail
            go_quiet (fail)
            go_wp2_with fail
            go_roundw
            case rel => exact ⟨q + 1, by omega, by first | (simp; omega) | simp, below_drewN HBY.out _⟩
            case measure => simp [intOf]; omega
          · obtain ⟨r, hr⟩ : ∃ r, q = r + 1 := ⟨q - 1, by omega⟩
            have hqi : (0 : Int) < (q : Int) := by omega
            have hrl : r < B.length := by omega
            have hri : (r : Int) < (lb : Int) := by omega
            have hsub : IntKind.i64.wrap ((q : Int) - 1) = (r : Int) := by rw [IntKind.wrap_i64]; omega
            obtain ⟨g2, hg2, -, z1, z2⟩ := HNY.out.cell r hrl
            simp only [Option.some.injEq, Addr.mk.injEq, and_true] at hg2
            subst hg2
            have hzx := HAH.out r hrl (by omega)
            obtain ⟨z, hz⟩ : ∃ z, B[r] = z := ⟨_, rfl⟩
            rw [hz] at z1 z2 hzx
            obtain ⟨z1', z2', z3'⟩ := z
            simp only at z1 z2 hzx
            clear hz hr hrl
            rcases hzx with hzx | ⟨hzx, hzy⟩
            · have hle1 : decide ((x2 : Int) < (z2' : Int)) = false := decide_eq_false (by omega)
              have hle0 : (z2' : Int) ≤ (x2 : Int) := by omega
              have hne1 : ¬ z2' = x2 := by omega
              have hne2 : ((z2' : Int) = (x2 : Int)) = False := eq_false (by omega)
              have hne3 : (z2' == x2) = false := by simp; omega
              have hne4 : decide (z2' = x2) = false := decide_eq_false (by omega)
              have hne5 : decide ((z2' : Int) = (x2 : Int)) = false := decide_eq_false (by omega)
              have hlt5 : z2' < x2 := by omega
              have hlt6 : decide (x2 < z2') = false := decide_eq_false (by omega)
              have heq1 : ((z2' : Int) == (x2 : Int)) = false := by simp; omega
              go_wp2_with fail
              go_quiet (fail)
              go_wp2_with fail
              go_roundw
              case rel => exact ⟨q + 1, by omega, by first | (simp; omega) | simp, below_drewN HBY.out _⟩
              case measure => simp [intOf]; omega
            · have hle1 : decide ((x2 : Int) < (z2' : Int)) = false := decide_eq_false (by omega)
              have hle0 : (z2' : Int) ≤ (x2 : Int) := by omega
              have heq1 : ((z2' : Int) == (x2 : Int)) = true := by simp; omega
              have hle2 : (z3' : Int) < (x3 : Int) := by omega
              have hle3 : decide ((x3 : Int) ≤ (z3' : Int)) = false := decide_eq_false (by omega)
              go_wp2_with fail
              go_quiet (fail)
              go_wp2_with fail
              go_roundw
              case rel => exact ⟨q + 1, by omega, by first | (simp; omega) | simp, below_drewN HBY.out _⟩
              case measure => simp [intOf]; omega
      · obtain rfl : q = lb := by omega
        clear hbw
        go_wp2_with fail
        go_ret
        exact ⟨rfl, HB4.out.trans (HBW.out.mono HB4.out.size)⟩
end Go.Proofs.YtaakaajcpjiccaaDoor
