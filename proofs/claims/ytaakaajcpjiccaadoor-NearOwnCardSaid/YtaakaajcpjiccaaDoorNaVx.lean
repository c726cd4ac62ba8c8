/-
  NearBoth.
-/
import Derived.Test.YtaakaajcpjiccaaDoorNaVw
set_option linter.unusedVariables false
set_option linter.unusedSimpArgs false
namespace Go.Proofs.YtaakaajcpjiccaaDoor
open Go.RowKit
open Go.Proofs

/-- Two of a row's symbols, held against one another. -/
theorem both_plain (n : Int) (hn : 1 ≤ n ∧ n ≤ 5) (K : Int) (hK : 0 ≤ K ∧ K ≤ 3) (i j : Nat) (hi : i < (rowB n).length) (hj : j < (rowB n).length) :
    ∃ V : Int, atN (nearN n (atR (rowB n) i) K) (atR (rowB n) j) = V ∧ atN (nearN n (atR (rowB n) j) K) (atR (rowB n) i) = V ∧ ((V < 0 ∧ K < (dist (atR (rowB n) i).toList (atR (rowB n) j).toList : Nat)) ∨ (0 ≤ V ∧ ((dist (atR (rowB n) i).toList (atR (rowB n) j).toList : Nat) : Int) ≤ K)) := by
  have hd : dstR (rowB n) (atR (rowB n) j) i = dstR (rowB n) (atR (rowB n) i) j := dist_comm _ _
  unfold nearN
  rw [if_pos ⟨hn, hK⟩, if_pos ⟨hn, hK⟩, atN_near (rowB_nodup n) _ _ _ hj, atN_near (rowB_nodup n) _ _ _ hi, hd]
  refine ⟨_, rfl, rfl, ?_⟩
  show _ ∧ K < (dstR (rowB n) (atR (rowB n) i) j : Int) ∨ _ ∧ (dstR (rowB n) (atR (rowB n) i) j : Int) ≤ K
  generalize dstR (rowB n) (atR (rowB n) i) j = d
  split
  · right; omega
  · left; omega
/-- What the law's calls answer, at worlds above a base. -/
theorem both_at (n r : Int) (hr : 0 ≤ r ∧ r < (rowB n).length) (B : World) (hL : Laid B) : ∀ X, Below B.heap.size B X → Calls Tryd.prog 16 #[.int .i64 n, .int .i64 r] X fun e X1 => e = .returned (.tuple #[.string (atR (rowB n) r.toNat), .bool true]) ∧ Below B.heap.size B X1 := fun X hX =>
  (at_any n r X (laid_under hL hX)).mono (by
    rintro e X1 ⟨rfl, hb⟩
    refine ⟨?_, hX.trans (hb.mono hX.size)⟩
    unfold atV
    rw [if_pos hr]
    rfl)
theorem both_near (n k : Int) (s : ByteArray) (hs : s.size ≤ 16) (B : World) (hL : Laid B) : ∀ X, Below B.heap.size B X →
    Calls Tryd.prog 12 #[.int .i64 n, .string s, .int .i64 k] X fun e X1 => ∃ a1 c1, e = .returned (.slice a1 (nearN n s k).length c1) ∧ Below B.heap.size B X1 ∧ NeAt X1 a1 (nearN n s k) := fun X hX =>
  (near_any n k s (by omega) X (laid_under hL hX)).mono (by
    rintro e X1 ⟨v, rfl, ho, hb⟩
    obtain ⟨a, c, rfl, hn⟩ := ownNe_at ho
    exact ⟨a, c, rfl, hX.trans (hb.mono hX.size), hn⟩)
theorem both_said (L : List NearD) (hle : L.length ≤ 5000) (s : ByteArray) (B : World) : ∀ (X : World) (a : Option Addr) (c : Nat), Below B.heap.size B X → NeAt X a L →
    Calls Tryd.prog 17 #[.slice a L.length c, .string s] X fun e X1 => e = .returned (.int .i64 (atN L s)) ∧ Below B.heap.size B X1 := fun X a c hX hN =>
  (atN_any L s a c X (by omega) hN).mono (by
    rintro e X1 ⟨rfl, hb⟩
    exact ⟨rfl, hX.trans (hb.mono hX.size)⟩)
set_option maxRecDepth 100000 in
set_option maxHeartbeats 400000 in
theorem nearBoth_any (n q0 q1 k : Int) (w : World) (hL : Laid w) : Calls Tryd.prog 5 #[.int .i64 n, .agg #[.int .i64 q0, .int .i64 q1], .int .i64 k] w fun e w' => e = .returned (.bool true) ∧ Below w.heap.size w w' := by
  obtain ⟨m, hm⟩ : ∃ m, n % 5 = m := ⟨_, rfl⟩
  have hm0 : 0 ≤ m ∧ m < 5 := by omega
  have HK := Lib.hid (and3 k)
  obtain ⟨K, hKe⟩ : ∃ K, bits BinOp.and IntKind.i64 k 3 = K := ⟨_, rfl⟩
  have HKE := Lib.hid hKe
  rw [hKe] at HK
  clear hKe
  have hm1 : 1 ≤ 1 + m ∧ 1 + m ≤ 5 := by omega
  have hpos := rowB_pos (1 + m) hm1.1 hm1.2
  have hle := rowB_len (1 + m)
  obtain ⟨w1, hw1⟩ : ∃ W, w.alloc (.cells #[.int .i64 q0, .int .i64 q1] 30) = W := ⟨_, rfl⟩
  have hba : Below w.heap.size w w1 := by rw [← hw1]; exact (Below.refl _ _).alloc (Nat.le_refl _) _
  have t0 : w1.cell? ⟨w.heap.size, 0, none⟩ = some (.int .i64 q0) := by rw [← hw1]; exact cellNew3 rfl rfl
  have t1 : w1.cell? ⟨w.heap.size, 1, none⟩ = some (.int .i64 q1) := by rw [← hw1]; exact cellNew3 rfl rfl
  have hL1 := laid_under hL hba
  have HBA := Lib.hid hba
  have HT0 := Lib.hid t0
  have HT1 := Lib.hid t1
  have HAW := Lib.hid (awake_any w1 hL1)
  have HR5 := Lib.hid (fun X => rest19_any n 5 X (by omega) (by omega))
  rw [hm] at HR5
  have HROW : Hid (∀ X, Below w1.heap.size w1 X → Calls Tryd.prog 15 #[.int .i64 (1 + m)] X fun e X1 => ∃ a c, e = .returned (.slice a (rowB (1 + m)).length c) ∧ Below w1.heap.size w1 X1) := fun X hX =>
    (row_any (1 + m) X (laid_under hL1 hX)).mono (by
      rintro e X1 ⟨v, rfl, ho, hb⟩
      obtain ⟨a, c, rfl, _⟩ := ho.sl
      exact ⟨a, c, rfl, hX.trans (hb.mono hX.size)⟩)
  have HAT : Hid (∀ r X, 0 ≤ r ∧ r < ((rowB (1 + m)).length : Int) → Below w1.heap.size w1 X → _) := fun r X hr hX => both_at (1 + m) r hr w1 hL1 X hX
  have hd0 : 0 ≤ q0 % (rowB (1 + m)).length ∧ q0 % (rowB (1 + m)).length < ((rowB (1 + m)).length : Int) := ⟨Int.emod_nonneg _ (by omega), Int.emod_lt_of_pos _ (by omega)⟩
  have hd1 : 0 ≤ q1 % (rowB (1 + m)).length ∧ q1 % (rowB (1 + m)).length < ((rowB (1 + m)).length : Int) := ⟨Int.emod_nonneg _ (by omega), Int.emod_lt_of_pos _ (by omega)⟩
  have HA0 := Lib.hid (both_at (1 + m) _ hd0 w1 hL1)
  have HA1 := Lib.hid (both_at (1 + m) _ hd1 w1 hL1)
  have HRA := Lib.hid (fun X => rest19_any q0 (rowB (1 + m)).length X (by omega) (by omega))
  have HRB := Lib.hid (fun X => rest19_any q1 (rowB (1 + m)).length X (by omega) (by omega))
  obtain ⟨V, hV1, hV2, hV3⟩ := both_plain (1 + m) hm1 K HK.out (q0 % (rowB (1 + m)).length).toNat (q1 % (rowB (1 + m)).length).toNat (by omega) (by omega)
  have hs0 := atR_short (1 + m) (q0 % (rowB (1 + m)).length).toNat
  have hs1 := atR_short (1 + m) (q1 % (rowB (1 + m)).length).toNat
  have HDI := Lib.hid (fun X => distance_any (atR (rowB (1 + m)) (q0 % (rowB (1 + m)).length).toNat) (atR (rowB (1 + m)) (q1 % (rowB (1 + m)).length).toNat) X (by omega) (by omega))
  have HN0 := Lib.hid (both_near (1 + m) K _ hs0 w1 hL1)
  have HN1 := Lib.hid (both_near (1 + m) K _ hs1 w1 hL1)
  have HS0 := Lib.hid (both_said _ (nearN_le (1 + m) K (atR (rowB (1 + m)) (q0 % (rowB (1 + m)).length).toNat)) (atR (rowB (1 + m)) (q1 % (rowB (1 + m)).length).toNat) w1)
  have HS1 := Lib.hid (both_said _ (nearN_le (1 + m) K (atR (rowB (1 + m)) (q1 % (rowB (1 + m)).length).toNat)) (atR (rowB (1 + m)) (q0 % (rowB (1 + m)).length).toNat) w1)
  rw [hV1] at HS0
  rw [hV2] at HS1
  clear HAT hV1 hV2
  generalize nearN (1 + m) (atR (rowB (1 + m)) (q0 % (rowB (1 + m)).length).toNat) K = L0 at HN0 HS0
  generalize nearN (1 + m) (atR (rowB (1 + m)) (q1 % (rowB (1 + m)).length).toNat) K = L1 at HN1 HS1
  generalize dist (atR (rowB (1 + m)) (q0 % (rowB (1 + m)).length).toNat).toList (atR (rowB (1 + m)) (q1 % (rowB (1 + m)).length).toNat).toList = D at HDI hV3
  generalize atR (rowB (1 + m)) (q0 % (rowB (1 + m)).length).toNat = s0 at HN0 HN1 HS0 HS1 HA0 HDI
  generalize atR (rowB (1 + m)) (q1 % (rowB (1 + m)).length).toNat = s1 at HN0 HN1 HS0 HS1 HA1 HDI
  generalize (rowB (1 + m)).length = len at *
  generalize q0 % (len : Int) = r0 at HRA HA0
  generalize q1 % (len : Int) = r1 at HRB HA1
  clear hs0 hs1 hd0 hd1 hL hL1 hm hba t0 t1
  go_enter Tryd.func5, Tryd.ntmps5
  go_wp2_with fail
  clear hw1
  refine HAW.out.mono ?_
  rintro e w2 ⟨rfl, hb⟩
  have HB2 := Lib.hid hb
  clear hb
  go_wp2_with (go_at_call 10; refine (HR5.out _).mono ?_; rintro e w' ⟨rfl, hw⟩; rw [hw]; clear hw)
  refine (HROW.out w2 HB2.out).mono ?_
  rintro e w3 ⟨a3, c3, rfl, hb⟩
  have HB3 := Lib.hid hb
  have t0 := cell_under HT0.out hb
  clear hb
  go_wp2_with fail
  refine (HRA.out _).mono ?_
  rintro e w' ⟨rfl, hw⟩
  rw [hw]
  clear hw
  go_wp2_with fail
  refine (HA0.out _ HB3.out).mono ?_
  rintro e w4 ⟨rfl, hb⟩
  have HB4 := Lib.hid hb
  have t1 := cell_under HT1.out hb
  clear hb t0
  go_wp2_with fail
  refine (HRB.out _).mono ?_
  rintro e w' ⟨rfl, hw⟩
  rw [hw]
  clear hw
  go_wp2_with fail
  refine (HA1.out _ HB4.out).mono ?_
  rintro e w5 ⟨rfl, hb⟩
  have HB5 := Lib.hid hb
  clear hb t1
  go_wp2_with fail
  rw [HKE.out]
  refine (HN0.out _ HB5.out).mono ?_
  rintro e w6 ⟨a6, c6, rfl, hb, hn⟩
  have HB6 := Lib.hid hb
  have HN6 := Lib.hid hn
  clear hb hn
  go_wp2_with fail
  refine (HS0.out _ _ _ HB6.out HN6.out).mono ?_
  rintro e w7 ⟨rfl, hb⟩
  have HB7 := Lib.hid hb
  clear hb
  go_wp2_with fail
  rw [HKE.out]
  refine (HN1.out _ HB7.out).mono ?_
  rintro e w8 ⟨a8, c8, rfl, hb, hn⟩
  have HB8 := Lib.hid hb
  have HN8 := Lib.hid hn
  clear hb hn
  go_wp2_with fail
  refine (HS1.out _ _ _ HB8.out HN8.out).mono ?_
  rintro e w9 ⟨rfl, hb⟩
  have HB9 := Lib.hid hb
  clear hb
  rcases hV3 with ⟨hV0, hV1⟩ | ⟨hV0, hV1⟩
  · go_wp2_with fail
    rw [← HKE.out] at hV1
    refine (HDI.out _).mono ?_
    rintro e w10 ⟨rfl, hb⟩
    have HB10 := Lib.hid (HB9.out.trans (hb.mono HB9.out.size))
    clear hb
    go_wp2_with fail
    go_ret
    exact ⟨rfl, HBA.out.trans (HB10.out.mono HBA.out.size)⟩
  · go_wp2_with fail
    rw [← HKE.out] at hV1
    refine (HDI.out _).mono ?_
    rintro e w10 ⟨rfl, hb⟩
    have HB10 := Lib.hid (HB9.out.trans (hb.mono HB9.out.size))
    clear hb
    go_wp2_with fail
    go_ret
    have hqq : (decide (V < 0) == decide (bits BinOp.and IntKind.i64 k 3 < (D : Int))) = true := by
      rw [decide_eq_false (by omega), decide_eq_false (by omega)]; rfl
    exact ⟨congrArg (fun b => Ending.returned (.bool b)) hqq, HBA.out.trans (HB10.out.mono HBA.out.size)⟩
end Go.Proofs.YtaakaajcpjiccaaDoor
