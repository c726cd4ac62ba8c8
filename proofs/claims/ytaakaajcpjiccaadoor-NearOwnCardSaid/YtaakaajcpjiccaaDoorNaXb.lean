/-
  NearOwn: the walk.
-/
import Derived.Laws.BytesArg
import Derived.Test.YtaakaajcpjiccaaDoorNaVyXa
import Derived.Test.YtaakaajcpjiccaaDoorNaVx
set_option linter.unusedVariables false
set_option linter.unusedSimpArgs false
namespace Go.Proofs.YtaakaajcpjiccaaDoor
open Go.RowKit
open Go.Proofs

theorem own_near (n : Int) (hn : 1 ≤ n ∧ n ≤ 5) (i : Nat) (hi : i < (rowB n).length) (t : ByteArray) (ht : t.size ≤ 1000) (hd : dist t.toList (atR (rowB n) i).toList ≤ 1) (B : World) (hL : Laid B) : ∀ X, Below B.heap.size B X →
    Calls Tryd.prog 12 #[.int .i64 n, .string t, .int .i64 1] X fun e X1 => ∃ (L : List NearD) (a : Option Addr) (c : Nat), e = .returned (.slice a L.length c) ∧ Below B.heap.size B X1 ∧ NeAt X1 a L ∧ L.length ≤ 5000 ∧ L.any (fun x => decide (x.1 = atR (rowB n) i)) = true := fun X hX =>
  (near_any n 1 t ht X (laid_under hL hX)).mono (by
    rintro e X1 ⟨v, rfl, ho, hb⟩
    obtain ⟨a, c, rfl, hn'⟩ := ownNe_at ho
    exact ⟨_, a, c, rfl, hX.trans (hb.mono hX.size), hn', nearN_le _ _ _, found_plain n hn i hi t hd⟩)
theorem own_zero (n : Int) (hn : 1 ≤ n ∧ n ≤ 5) (t : ByteArray) (ht : t.size ≤ 1000) (B : World) (hL : Laid B) : ∀ X, Below B.heap.size B X →
    Calls Tryd.prog 12 #[.int .i64 n, .string t, .int .i64 0] X fun e X1 => ∃ (L : List NearD) (a : Option Addr) (c : Nat), e = .returned (.slice a L.length c) ∧ Below B.heap.size B X1 ∧ NeAt X1 a L ∧ L = nearN n t 0 := fun X hX =>
  (near_any n 0 t ht X (laid_under hL hX)).mono (by
    rintro e X1 ⟨v, rfl, ho, hb⟩
    obtain ⟨a, c, rfl, hn'⟩ := ownNe_at ho
    exact ⟨_, a, c, rfl, hX.trans (hb.mono hX.size), hn', rfl⟩)
/-- The three texts that the law makes. -/
theorem texts_plain (y : ByteArray) (k sz : Nat) (hz : y.size = sz) (h16 : sz ≤ 16) (hk : k < sz) (c : UInt8) :
    ((y.extract 0 k ++ ⟨#[c]⟩ ++ y.extract (k + 1) sz).size ≤ 1000 ∧ dist (y.extract 0 k ++ ⟨#[c]⟩ ++ y.extract (k + 1) sz).toList y.toList ≤ 1) ∧
    ((y.extract 0 k ++ y.extract (k + 1) sz).size ≤ 1000 ∧ dist (y.extract 0 k ++ y.extract (k + 1) sz).toList y.toList ≤ 1) ∧
    ((y.extract 0 k ++ ⟨#[c]⟩ ++ y.extract k sz).size ≤ 1000 ∧ dist (y.extract 0 k ++ ⟨#[c]⟩ ++ y.extract k sz).toList y.toList ≤ 1) := by
  subst hz
  obtain ⟨h1, h2, h3⟩ := steps_plain y k hk c
  have hc : (⟨#[c]⟩ : ByteArray).toList = [c] := by rw [ByteArray.toList_eq]
  have hcs : (⟨#[c]⟩ : ByteArray).size = 1 := rfl
  refine ⟨⟨?_, ?_⟩, ⟨?_, ?_⟩, ⟨?_, ?_⟩⟩
  · simp only [ByteArray.size_append, ByteArray.size_extract, hcs]; omega
  · rw [toList_cat, toList_cat, extract_take, extract_drop, hc, List.append_assoc]; exact h1
  · simp only [ByteArray.size_append, ByteArray.size_extract]; omega
  · rw [toList_cat, extract_take, extract_drop]; exact h2
  · simp only [ByteArray.size_append, ByteArray.size_extract, hcs]; omega
  · rw [toList_cat, toList_cat, extract_take, extract_drop, hc, List.append_assoc]; exact h3
theorem any_drop {α : Type} (L : List α) (f : α → Bool) (k : Nat) (h : k < L.length) : (L.drop k).any f = (f L[k] || (L.drop (k + 1)).any f) := by
  rw [List.drop_eq_getElem_cons h]
  rfl
theorem one_byte (z : Int) (W : World) (b : Nat) (h : W.cell? ⟨b, 0, none⟩ = some (.int .u8 z)) : (convert 44 9 (.slice (some ⟨b, 0, none⟩) 1 1)).run Tryd.prog W = .ok (.string ⟨#[UInt8.ofNat z.toNat]⟩) W := by
  rw [run_convert_bytes_arg W 44 5 Tryd.underlying44 Tryd.underlying5 b 0 1 1 [z] rfl (fun i hi => by
    obtain rfl : i = 0 := by omega
    exact h) 9 Tryd.underlying9]
  rfl
set_option maxRecDepth 100000 in
set_option maxHeartbeats 2000000 in
theorem nearOwn_any (n : Int) (s : ByteArray) (q0 q1 q2 q3 : Int) (w : World) (hL : Laid w) : Calls Tryd.prog 7 #[.int .i64 n, .string s, .agg #[.int .i64 q0, .int .i64 q1, .int .i64 q2, .int .i64 q3]] w fun e w' => e = .returned (.bool true) ∧ Below w.heap.size w w' := by
  have hs : (shortS s 20).size ≤ 1000 := by have := shortS_le s 20; omega
  obtain ⟨m, hm⟩ : ∃ m, n % 5 = m := ⟨_, rfl⟩
  have hm0 : 0 ≤ m ∧ m < 5 := by omega
  have hm1 : 1 ≤ 1 + m ∧ 1 + m ≤ 5 := by omega
  have hpos := rowB_pos (1 + m) hm1.1 hm1.2
  have hle := rowB_len (1 + m)
  obtain ⟨w1, hw1⟩ : ∃ W, w.alloc (.cells #[.int .i64 q0, .int .i64 q1, .int .i64 q2, .int .i64 q3] 43) = W := ⟨_, rfl⟩
  have hba : Below w.heap.size w w1 := by rw [← hw1]; exact (Below.refl _ _).alloc (Nat.le_refl _) _
  have HT0 : Hid (w1.cell? ⟨w.heap.size, 0, none⟩ = some (.int .i64 q0)) := by show _ = _; rw [← hw1]; exact cellNew3 rfl rfl
  have HT1 : Hid (w1.cell? ⟨w.heap.size, 1, none⟩ = some (.int .i64 q1)) := by show _ = _; rw [← hw1]; exact cellNew3 rfl rfl
  have HT2 : Hid (w1.cell? ⟨w.heap.size, 2, none⟩ = some (.int .i64 q2)) := by show _ = _; rw [← hw1]; exact cellNew3 rfl rfl
  have HT3 : Hid (w1.cell? ⟨w.heap.size, 3, none⟩ = some (.int .i64 q3)) := by show _ = _; rw [← hw1]; exact cellNew3 rfl rfl
  have hL1 := laid_under hL hba
  have HBA := Lib.hid hba
  have HAW := Lib.hid (awake_any w1 hL1)
  have HSH := Lib.hid (fun X => short_any s 20 X (by omega))
  have HR5 := Lib.hid (fun X => rest19_any n 5 X (by omega) (by omega))
  rw [hm] at HR5
  have HN0 := Lib.hid (own_zero (1 + m) hm1 (shortS s 20) hs w1 hL1)
  have HRA : Hid (∀ X, Below w1.heap.size w1 X → Calls Tryd.prog 19 #[.int .i64 (1 + m), .string (shortS s 20)] X fun e X1 => e = .returned (rankV (1 + m) (shortS s 20)) ∧ Below w1.heap.size w1 X1 ∧ Below X.heap.size X X1) := fun X hX =>
    (rank_any (1 + m) _ (Nat.le_trans hs (by decide)) X (laid_under hL1 hX)).mono (by rintro e X1 ⟨rfl, hb⟩; exact ⟨rfl, hX.trans (hb.mono hX.size), hb⟩)
  have HROW : Hid (∀ X, Below w1.heap.size w1 X → Calls Tryd.prog 15 #[.int .i64 (1 + m)] X fun e X1 => ∃ a c, e = .returned (.slice a (rowB (1 + m)).length c) ∧ Below w1.heap.size w1 X1) := fun X hX =>
    (row_any (1 + m) X (laid_under hL1 hX)).mono (by
      rintro e X1 ⟨v, rfl, ho, hb⟩
      obtain ⟨a, c, rfl, _⟩ := ho.sl
      exact ⟨a, c, rfl, hX.trans (hb.mono hX.size)⟩)
  have hd0 : 0 ≤ q0 % (rowB (1 + m)).length ∧ q0 % (rowB (1 + m)).length < ((rowB (1 + m)).length : Int) := ⟨Int.emod_nonneg _ (by omega), Int.emod_lt_of_pos _ (by omega)⟩
  have HA0 := Lib.hid (both_at (1 + m) _ hd0 w1 hL1)
  have HRB := Lib.hid (fun X => rest19_any q0 (rowB (1 + m)).length X (by omega) (by omega))
  have hi : (q0 % (rowB (1 + m)).length).toNat < (rowB (1 + m)).length := by omega
  have hs0 := atR_short (1 + m) (q0 % (rowB (1 + m)).length).toNat
  have hs1 := rowB_full (1 + m) _ (atR_mem hi)
  have HN1 : Hid (∀ t : ByteArray, t.size ≤ 1000 → dist t.toList (atR (rowB (1 + m)) (q0 % (rowB (1 + m)).length).toNat).toList ≤ 1 → ∀ X, Below w1.heap.size w1 X → Calls Tryd.prog 12 #[.int .i64 (1 + m), .string t, .int .i64 1] X fun e X1 => ∃ (L : List NearD) (a : Option Addr) (c : Nat), e = .returned (.slice a L.length c) ∧ Below w1.heap.size w1 X1 ∧ NeAt X1 a L ∧ L.length ≤ 5000 ∧ L.any (fun x => decide (x.1 = atR (rowB (1 + m)) (q0 % (rowB (1 + m)).length).toNat)) = true) :=
    fun t ht hd => own_near (1 + m) hm1 _ hi t ht hd w1 hL1
  have HP := Lib.hid (own_plain (1 + m) hm1 (shortS s 20))
  generalize atR (rowB (1 + m)) (q0 % (rowB (1 + m)).length).toNat = y at HN1 HA0 hs0 hs1
  clear hi
  generalize (rowB (1 + m)).length = len at *
  generalize q0 % (len : Int) = r0 at *
  generalize nearN (1 + m) (shortS s 20) 0 = L0 at HN0 HP
  generalize rankV (1 + m) (shortS s 20) = rv at HRA HP
  generalize shortS s 20 = t at *
  obtain ⟨sz, hsz⟩ : ∃ z, y.size = z := ⟨_, rfl⟩
  have HR1 := Lib.hid (fun X => rest19_any q1 sz X (by omega) (by omega))
  obtain ⟨kk, hkk⟩ : ∃ k : Nat, q1 % (sz : Int) = (k : Int) := ⟨(q1 % (sz : Int)).toNat, by have := Int.emod_nonneg q1 (b := (sz : Int)) (by omega); omega⟩
  have hkl : kk < sz := by have := Int.emod_lt_of_pos q1 (b := (sz : Int)) (by omega); omega
  rw [hkk] at HR1
  have HR3 := Lib.hid (fun X => rest19_any q3 3 X (by omega) (by omega))
  obtain ⟨d3, hd3⟩ : ∃ d, q3 % 3 = d := ⟨_, rfl⟩
  have hd30 : 0 ≤ d3 ∧ d3 < 3 := by omega
  rw [hd3] at HR3
  clear hd0 hL hL1 hm hba hs hkk hd3
  go_enter Tryd.func7, Tryd.ntmps7
  go_wp2_with fail
  clear hw1
  refine HAW.out.mono ?_
  rintro e w2 ⟨rfl, hb⟩
  have HB2 := Lib.hid hb
  clear hb
  go_wp2_with fail
  refine (HSH.out _).mono ?_
  rintro e w' ⟨rfl, hw⟩
  rw [hw]
  clear hw
  go_wp2_with fail
  refine (HR5.out _).mono ?_
  rintro e w' ⟨rfl, hw⟩
  rw [hw]
  clear hw
  go_wp2_with fail
  refine (HN0.out w2 HB2.out).mono ?_
  rintro e w3 ⟨L, a3, c3, rfl, hb, hn, rfl⟩
  have HB3 := Lib.hid hb
  have HN3 := Lib.hid hn
  clear hb hn
  rcases HP.out with ⟨hr, hz⟩ | ⟨j, hr, hz⟩
  · subst hr hz
    go_wp2_with fail
    refine (HRA.out w3 HB3.out).mono ?_
    rintro e w4 ⟨rfl, hb, hb34⟩
    have HB4 := Lib.hid hb
    clear hb hb34 HN3
    go_wp2_with fail
    refine (HROW.out w4 HB4.out).mono ?_
    rintro e w5 ⟨a5, c5, rfl, hb⟩
    have HB5 := Lib.hid hb
    have t0 := cell_under HT0.out hb
    clear hb
    go_wp2_with fail
    refine (HRB.out _).mono ?_
    rintro e w' ⟨rfl, hw⟩
    rw [hw]
    clear hw
    go_wp2_with fail
    refine (HA0.out _ HB5.out).mono ?_
    rintro e w6 ⟨rfl, hb⟩
    have HB6 := Lib.hid hb
    have t1 := cell_under HT1.out hb
    have t2 := cell_under HT2.out hb
    have t3 := cell_under HT3.out hb
    clear hb t0
    rw [hsz] at hs0 hs1
    go_wp2_with fail
    refine (HR1.out _).mono ?_
    rintro e w' ⟨rfl, hw⟩
    rw [hw]
    clear hw
    obtain ⟨W7, hW7⟩ : ∃ W, w6.alloc (.cells #[.int .u8 (q2 % 256)] 5) = W := ⟨_, rfl⟩
    have hb67 : Below w6.heap.size w6 W7 := by rw [← hW7]; exact (Below.refl _ _).alloc (Nat.le_refl _) _
    have hcv := one_byte (q2 % 256) W7 w6.heap.size (by rw [← hW7]; exact cellNew3 rfl rfl)
    have HB7 := Lib.hid (HB6.out.trans (hb67.mono HB6.out.size))
    obtain ⟨u3, hu3⟩ : ∃ u, u = W7.cell? ⟨w.heap.size, 3, none⟩ := ⟨_, rfl⟩
    have t3' := cell_under t3 hb67
    generalize UInt8.ofNat (q2 % 256).toNat = c at hcv
    have hks : (kk : Int) ≤ (sz : Int) := by omega
    have hks1 : (kk : Int) + 1 ≤ (sz : Int) := by omega
    have hkw : IntKind.i64.wrap ((kk : Int) + 1) = (kk : Int) + 1 := by rw [IntKind.wrap_i64]; omega
    clear hb67 t1 t3 hu3
    go_wp2_with fail
    go_quiet (fail)
    have HB8' := Lib.hid (below_drewN HB7.out nq)
    have t3 : (W7.drewN nq).cell? ⟨w.heap.size, 3, none⟩ = some (.int .i64 q3) := by rw [World.cell?_drewN]; exact t3'
    clear t3' hcv HB7 hW7
    generalize W7.drewN nq = W8 at HB8' t3 ⊢
    have HB8 := Lib.hid HB8'.out
    clear HB8'
    obtain ⟨⟨x1, x2⟩, ⟨x3, x4⟩, ⟨x5, x6⟩⟩ := texts_plain y kk sz hsz hs0 hkl c
    have HM0 := Lib.hid (HN1.out _ x1 x2)
    have HM1 := Lib.hid (HN1.out _ x3 x4)
    have HM2 := Lib.hid (HN1.out _ x5 x6)
    clear x1 x2 x3 x4 x5 x6
    go_wp2_with fail
    refine (HR3.out _).mono ?_
    rintro e w' ⟨rfl, hw⟩
    rw [hw]
    clear hw
    obtain rfl | rfl | rfl : d3 = 0 ∨ d3 = 1 ∨ d3 = 2 := by omega
    · go_wp2_with fail
      refine (HM0.out W8 HB8.out).mono ?_
      rintro e w9 ⟨L, a9, c9, rfl, hb, hn, hll, han⟩
      have HB9 := Lib.hid hb
      have HN9 := Lib.hid hn
      obtain ⟨ln, hln⟩ : ∃ l, L.length = l := ⟨_, rfl⟩
      have HLN := Lib.hid hln
      rw [hln] at hll ⊢
      have HAN : Hid ((false || (L.drop 0).any (fun x => decide (x.1 = y))) = true) := han
      clear hb hn hln han
      go_wp2_with fail
      go_loopw [19, 20] (fun f i wr => ∃ (q : Nat) (b : Bool), q ≤ ln ∧ f = .bool b ∧ i = .int .i64 (q : Int) ∧ Below w9.heap.size w9 wr ∧ Hid ((b || (L.drop q).any (fun x => decide (x.1 = y))) = true)) (fun _ i _ => ln - (intOf i).toNat)
      case atStart => exact ⟨0, false, by omega, rfl, rfl, Below.refl _ _, HAN⟩
      case round =>
        obtain ⟨q, b, hq, rfl, rfl, hbw, HQ⟩ := hrel
        have HBW := Lib.hid hbw
        by_cases hlt : q < ln
        · have hql : q < L.length := by rw [HLN.out]; exact hlt
          have hq1 : (q : Int) < (ln : Int) := by omega
          obtain ⟨g9, e9, p0, _, _⟩ := HN9.out.cell q hql
          subst e9
          have p0' := cell_under p0 hbw
          have HQ2 := Lib.hid HQ.out
          rw [any_drop L _ q hql] at HQ2
          obtain ⟨x, hx⟩ : ∃ x, L[q] = x := ⟨_, rfl⟩
          rw [hx] at p0' HQ2
          obtain ⟨x1, x2, x3⟩ := x
          simp only at p0'
          clear hx p0 hbw HQ HAN
          cases b with
          | true =>
            go_wp2_with fail
            go_roundw
            case rel => exact ⟨q + 1, true, by omega, rfl, by simp, HBW.out, rfl⟩
            case measure => simp [intOf]; omega
          | false =>
            by_cases hxy : x1 = y
            · have hxe : (x1.toList == y.toList) = true := by rw [bytes_beq]; exact decide_eq_true hxy
              go_wp2_with fail
              go_roundw
              case rel => exact ⟨q + 1, true, by omega, rfl, by simp, HBW.out, rfl⟩
              case measure => simp [intOf]; omega
            · have hxe : (x1.toList == y.toList) = false := by rw [bytes_beq]; exact decide_eq_false hxy
              have HQ3 : Hid ((false || (L.drop (q + 1)).any (fun x => decide (x.1 = y))) = true) := by
                have h := HQ2.out
                have h2 : decide (((x1, x2, x3) : NearD).1 = y) = false := decide_eq_false hxy
                rw [h2, Bool.false_or] at h
                exact h
              clear HQ2
              go_wp2_with fail
              go_roundw
              case rel => exact ⟨q + 1, false, by omega, rfl, by simp, HBW.out, HQ3⟩
              case measure => simp [intOf]; omega
        · obtain rfl : q = ln := by omega
          have hb1 : b = true := by
            have h := HQ.out
            rw [← HLN.out, List.drop_length] at h
            simpa using h
          subst hb1
          clear hbw HQ HAN
          go_wp2_with fail
          go_ret
          exact ⟨rfl, HBA.out.trans ((HB9.out.trans (HBW.out.mono HB9.out.size)).mono HBA.out.size)⟩
    · go_wp2_with fail
      go_quiet (fail)
      have HBq := Lib.hid (below_drewN HB8.out nq)
      clear t3 HB8
      generalize W8.drewN nq = W9 at HBq ⊢
      go_wp2_with fail
      refine (HM1.out W9 HBq.out).mono ?_
      rintro e w9 ⟨L, a9, c9, rfl, hb, hn, hll, han⟩
      have HB9 := Lib.hid hb
      have HN9 := Lib.hid hn
      obtain ⟨ln, hln⟩ : ∃ l, L.length = l := ⟨_, rfl⟩
      have HLN := Lib.hid hln
      rw [hln] at hll ⊢
      have HAN : Hid ((false || (L.drop 0).any (fun x => decide (x.1 = y))) = true) := han
      clear hb hn hln han
      go_wp2_with fail
      go_loopw [19, 20] (fun f i wr => ∃ (q : Nat) (b : Bool), q ≤ ln ∧ f = .bool b ∧ i = .int .i64 (q : Int) ∧ Below w9.heap.size w9 wr ∧ Hid ((b || (L.drop q).any (fun x => decide (x.1 = y))) = true)) (fun _ i _ => ln - (intOf i).toNat)
      case atStart => exact ⟨0, false, by omega, rfl, rfl, Below.refl _ _, HAN⟩
      case round =>
        obtain ⟨q, b, hq, rfl, rfl, hbw, HQ⟩ := hrel
        have HBW := Lib.hid hbw
        by_cases hlt : q < ln
        · have hql : q < L.length := by rw [HLN.out]; exact hlt
          have hq1 : (q : Int) < (ln : Int) := by omega
          obtain ⟨g9, e9, p0, _, _⟩ := HN9.out.cell q hql
          subst e9
          have p0' := cell_under p0 hbw
          have HQ2 := Lib.hid HQ.out
          rw [any_drop L _ q hql] at HQ2
          obtain ⟨x, hx⟩ : ∃ x, L[q] = x := ⟨_, rfl⟩
          rw [hx] at p0' HQ2
          obtain ⟨x1, x2, x3⟩ := x
          simp only at p0'
          clear hx p0 hbw HQ HAN
          cases b with
          | true =>
            go_wp2_with fail
            go_roundw
            case rel => exact ⟨q + 1, true, by omega, rfl, by simp, HBW.out, rfl⟩
            case measure => simp [intOf]; omega
          | false =>
            by_cases hxy : x1 = y
            · have hxe : (x1.toList == y.toList) = true := by rw [bytes_beq]; exact decide_eq_true hxy
              go_wp2_with fail
              go_roundw
              case rel => exact ⟨q + 1, true, by omega, rfl, by simp, HBW.out, rfl⟩
              case measure => simp [intOf]; omega
            · have hxe : (x1.toList == y.toList) = false := by rw [bytes_beq]; exact decide_eq_false hxy
              have HQ3 : Hid ((false || (L.drop (q + 1)).any (fun x => decide (x.1 = y))) = true) := by
                have h := HQ2.out
                have h2 : decide (((x1, x2, x3) : NearD).1 = y) = false := decide_eq_false hxy
                rw [h2, Bool.false_or] at h
                exact h
              clear HQ2
              go_wp2_with fail
              go_roundw
              case rel => exact ⟨q + 1, false, by omega, rfl, by simp, HBW.out, HQ3⟩
              case measure => simp [intOf]; omega
        · obtain rfl : q = ln := by omega
          have hb1 : b = true := by
            have h := HQ.out
            rw [← HLN.out, List.drop_length] at h
            simpa using h
          subst hb1
          clear hbw HQ HAN
          go_wp2_with fail
          go_ret
          exact ⟨rfl, HBA.out.trans ((HB9.out.trans (HBW.out.mono HB9.out.size)).mono HBA.out.size)⟩
    · go_wp2_with fail
      go_quiet (fail)
      have HBq := Lib.hid (below_drewN HB8.out nq)
      clear t3 HB8
      generalize W8.drewN nq = W9 at HBq ⊢
      go_wp2_with fail
      refine (HM2.out W9 HBq.out).mono ?_
      rintro e w9 ⟨L, a9, c9, rfl, hb, hn, hll, han⟩
      have HB9 := Lib.hid hb
      have HN9 := Lib.hid hn
      obtain ⟨ln, hln⟩ : ∃ l, L.length = l := ⟨_, rfl⟩
      have HLN := Lib.hid hln
      rw [hln] at hll ⊢
      have HAN : Hid ((false || (L.drop 0).any (fun x => decide (x.1 = y))) = true) := han
      clear hb hn hln han
      go_wp2_with fail
      go_loopw [19, 20] (fun f i wr => ∃ (q : Nat) (b : Bool), q ≤ ln ∧ f = .bool b ∧ i = .int .i64 (q : Int) ∧ Below w9.heap.size w9 wr ∧ Hid ((b || (L.drop q).any (fun x => decide (x.1 = y))) = true)) (fun _ i _ => ln - (intOf i).toNat)
      case atStart => exact ⟨0, false, by omega, rfl, rfl, Below.refl _ _, HAN⟩
      case round =>
        obtain ⟨q, b, hq, rfl, rfl, hbw, HQ⟩ := hrel
        have HBW := Lib.hid hbw
        by_cases hlt : q < ln
        · have hql : q < L.length := by rw [HLN.out]; exact hlt
          have hq1 : (q : Int) < (ln : Int) := by omega
          obtain ⟨g9, e9, p0, _, _⟩ := HN9.out.cell q hql
          subst e9
          have p0' := cell_under p0 hbw
          have HQ2 := Lib.hid HQ.out
          rw [any_drop L _ q hql] at HQ2
          obtain ⟨x, hx⟩ : ∃ x, L[q] = x := ⟨_, rfl⟩
          rw [hx] at p0' HQ2
          obtain ⟨x1, x2, x3⟩ := x
          simp only at p0'
          clear hx p0 hbw HQ HAN
          cases b with
          | true =>
            go_wp2_with fail
            go_roundw
            case rel => exact ⟨q + 1, true, by omega, rfl, by simp, HBW.out, rfl⟩
            case measure => simp [intOf]; omega
          | false =>
            by_cases hxy : x1 = y
            · have hxe : (x1.toList == y.toList) = true := by rw [bytes_beq]; exact decide_eq_true hxy
              go_wp2_with fail
              go_roundw
              case rel => exact ⟨q + 1, true, by omega, rfl, by simp, HBW.out, rfl⟩
              case measure => simp [intOf]; omega
            · have hxe : (x1.toList == y.toList) = false := by rw [bytes_beq]; exact decide_eq_false hxy
              have HQ3 : Hid ((false || (L.drop (q + 1)).any (fun x => decide (x.1 = y))) = true) := by
                have h := HQ2.out
                have h2 : decide (((x1, x2, x3) : NearD).1 = y) = false := decide_eq_false hxy
                rw [h2, Bool.false_or] at h
                exact h
              clear HQ2
              go_wp2_with fail
              go_roundw
              case rel => exact ⟨q + 1, false, by omega, rfl, by simp, HBW.out, HQ3⟩
              case measure => simp [intOf]; omega
        · obtain rfl : q = ln := by omega
          have hb1 : b = true := by
            have h := HQ.out
            rw [← HLN.out, List.drop_length] at h
            simpa using h
          subst hb1
          clear hbw HQ HAN
          go_wp2_with fail
          go_ret
          exact ⟨rfl, HBA.out.trans ((HB9.out.trans (HBW.out.mono HB9.out.size)).mono HBA.out.size)⟩
  · subst hr hz
    obtain ⟨g3, e3, p0, _, p2⟩ := HN3.out.cell 0 (by simp)
    simp only [List.getElem_cons_zero, Nat.zero_mul, Nat.zero_add] at p0 p2
    subst e3
    go_wp2_with fail
    refine (HRA.out w3 HB3.out).mono ?_
    rintro e w4 ⟨rfl, hb, hb34⟩
    have HB4 := Lib.hid hb
    have c0 := cell_under p0 hb34
    have c2 := cell_under p2 hb34
    have hj1 : ((j : Int) != (j : Int)) = false := by simp
    have ht1 : (t.toList != t.toList) = false := by simp
    clear hb hb34 p0 p2 HN3
    go_wp2_with fail
    refine (HROW.out w4 HB4.out).mono ?_
    rintro e w5 ⟨a5, c5, rfl, hb⟩
    have HB5 := Lib.hid hb
    have t0 := cell_under HT0.out hb
    clear hb c0 c2
    go_wp2_with fail
    refine (HRB.out _).mono ?_
    rintro e w' ⟨rfl, hw⟩
    rw [hw]
    clear hw
    go_wp2_with fail
    refine (HA0.out _ HB5.out).mono ?_
    rintro e w6 ⟨rfl, hb⟩
    have HB6 := Lib.hid hb
    have t1 := cell_under HT1.out hb
    have t2 := cell_under HT2.out hb
    have t3 := cell_under HT3.out hb
    clear hb t0
    rw [hsz] at hs0 hs1
    go_wp2_with fail
    refine (HR1.out _).mono ?_
    rintro e w' ⟨rfl, hw⟩
    rw [hw]
    clear hw
    obtain ⟨W7, hW7⟩ : ∃ W, w6.alloc (.cells #[.int .u8 (q2 % 256)] 5) = W := ⟨_, rfl⟩
    have hb67 : Below w6.heap.size w6 W7 := by rw [← hW7]; exact (Below.refl _ _).alloc (Nat.le_refl _) _
    have hcv := one_byte (q2 % 256) W7 w6.heap.size (by rw [← hW7]; exact cellNew3 rfl rfl)
    have HB7 := Lib.hid (HB6.out.trans (hb67.mono HB6.out.size))
    obtain ⟨u3, hu3⟩ : ∃ u, u = W7.cell? ⟨w.heap.size, 3, none⟩ := ⟨_, rfl⟩
    have t3' := cell_under t3 hb67
    generalize UInt8.ofNat (q2 % 256).toNat = c at hcv
    have hks : (kk : Int) ≤ (sz : Int) := by omega
    have hks1 : (kk : Int) + 1 ≤ (sz : Int) := by omega
    have hkw : IntKind.i64.wrap ((kk : Int) + 1) = (kk : Int) + 1 := by rw [IntKind.wrap_i64]; omega
    clear hb67 t1 t3 hu3
    go_wp2_with fail
    go_quiet (fail)
    have HB8' := Lib.hid (below_drewN HB7.out nq)
    have t3 : (W7.drewN nq).cell? ⟨w.heap.size, 3, none⟩ = some (.int .i64 q3) := by rw [World.cell?_drewN]; exact t3'
    clear t3' hcv HB7 hW7
    generalize W7.drewN nq = W8 at HB8' t3 ⊢
    have HB8 := Lib.hid HB8'.out
    clear HB8'
    obtain ⟨⟨x1, x2⟩, ⟨x3, x4⟩, ⟨x5, x6⟩⟩ := texts_plain y kk sz hsz hs0 hkl c
    have HM0 := Lib.hid (HN1.out _ x1 x2)
    have HM1 := Lib.hid (HN1.out _ x3 x4)
    have HM2 := Lib.hid (HN1.out _ x5 x6)
    clear x1 x2 x3 x4 x5 x6
    go_wp2_with fail
    refine (HR3.out _).mono ?_
    rintro e w' ⟨rfl, hw⟩
    rw [hw]
    clear hw
    obtain rfl | rfl | rfl : d3 = 0 ∨ d3 = 1 ∨ d3 = 2 := by omega
    · go_wp2_with fail
      refine (HM0.out W8 HB8.out).mono ?_
      rintro e w9 ⟨L, a9, c9, rfl, hb, hn, hll, han⟩
      have HB9 := Lib.hid hb
      have HN9 := Lib.hid hn
      obtain ⟨ln, hln⟩ : ∃ l, L.length = l := ⟨_, rfl⟩
      have HLN := Lib.hid hln
      rw [hln] at hll ⊢
      have HAN : Hid ((false || (L.drop 0).any (fun x => decide (x.1 = y))) = true) := han
      clear hb hn hln han
      go_wp2_with fail
      go_loopw [19, 20] (fun f i wr => ∃ (q : Nat) (b : Bool), q ≤ ln ∧ f = .bool b ∧ i = .int .i64 (q : Int) ∧ Below w9.heap.size w9 wr ∧ Hid ((b || (L.drop q).any (fun x => decide (x.1 = y))) = true)) (fun _ i _ => ln - (intOf i).toNat)
      case atStart => exact ⟨0, false, by omega, rfl, rfl, Below.refl _ _, HAN⟩
      case round =>
        obtain ⟨q, b, hq, rfl, rfl, hbw, HQ⟩ := hrel
        have HBW := Lib.hid hbw
        by_cases hlt : q < ln
        · have hql : q < L.length := by rw [HLN.out]; exact hlt
          have hq1 : (q : Int) < (ln : Int) := by omega
          obtain ⟨g9, e9, p0, _, _⟩ := HN9.out.cell q hql
          subst e9
          have p0' := cell_under p0 hbw
          have HQ2 := Lib.hid HQ.out
          rw [any_drop L _ q hql] at HQ2
          obtain ⟨x, hx⟩ : ∃ x, L[q] = x := ⟨_, rfl⟩
          rw [hx] at p0' HQ2
          obtain ⟨x1, x2, x3⟩ := x
          simp only at p0'
          clear hx p0 hbw HQ HAN
          cases b with
          | true =>
            go_wp2_with fail
            go_roundw
            case rel => exact ⟨q + 1, true, by omega, rfl, by simp, HBW.out, rfl⟩
            case measure => simp [intOf]; omega
          | false =>
            by_cases hxy : x1 = y
            · have hxe : (x1.toList == y.toList) = true := by rw [bytes_beq]; exact decide_eq_true hxy
              go_wp2_with fail
              go_roundw
              case rel => exact ⟨q + 1, true, by omega, rfl, by simp, HBW.out, rfl⟩
              case measure => simp [intOf]; omega
            · have hxe : (x1.toList == y.toList) = false := by rw [bytes_beq]; exact decide_eq_false hxy
              have HQ3 : Hid ((false || (L.drop (q + 1)).any (fun x => decide (x.1 = y))) = true) := by
                have h := HQ2.out
                have h2 : decide (((x1, x2, x3) : NearD).1 = y) = false := decide_eq_false hxy
                rw [h2, Bool.false_or] at h
                exact h
              clear HQ2
              go_wp2_with fail
              go_roundw
              case rel => exact ⟨q + 1, false, by omega, rfl, by simp, HBW.out, HQ3⟩
              case measure => simp [intOf]; omega
        · obtain rfl : q = ln := by omega
          have hb1 : b = true := by
            have h := HQ.out
            rw [← HLN.out, List.drop_length] at h
            simpa using h
          subst hb1
          clear hbw HQ HAN
          go_wp2_with fail
          go_ret
          exact ⟨rfl, HBA.out.trans ((HB9.out.trans (HBW.out.mono HB9.out.size)).mono HBA.out.size)⟩
    · go_wp2_with fail
      go_quiet (fail)
      have HBq := Lib.hid (below_drewN HB8.out nq)
      clear t3 HB8
      generalize W8.drewN nq = W9 at HBq ⊢
      go_wp2_with fail
      refine (HM1.out W9 HBq.out).mono ?_
      rintro e w9 ⟨L, a9, c9, rfl, hb, hn, hll, han⟩
      have HB9 := Lib.hid hb
      have HN9 := Lib.hid hn
      obtain ⟨ln, hln⟩ : ∃ l, L.length = l := ⟨_, rfl⟩
      have HLN := Lib.hid hln
      rw [hln] at hll ⊢
      have HAN : Hid ((false || (L.drop 0).any (fun x => decide (x.1 = y))) = true) := han
      clear hb hn hln han
      go_wp2_with fail
      go_loopw [19, 20] (fun f i wr => ∃ (q : Nat) (b : Bool), q ≤ ln ∧ f = .bool b ∧ i = .int .i64 (q : Int) ∧ Below w9.heap.size w9 wr ∧ Hid ((b || (L.drop q).any (fun x => decide (x.1 = y))) = true)) (fun _ i _ => ln - (intOf i).toNat)
      case atStart => exact ⟨0, false, by omega, rfl, rfl, Below.refl _ _, HAN⟩
      case round =>
        obtain ⟨q, b, hq, rfl, rfl, hbw, HQ⟩ := hrel
        have HBW := Lib.hid hbw
        by_cases hlt : q < ln
        · have hql : q < L.length := by rw [HLN.out]; exact hlt
          have hq1 : (q : Int) < (ln : Int) := by omega
          obtain ⟨g9, e9, p0, _, _⟩ := HN9.out.cell q hql
          subst e9
          have p0' := cell_under p0 hbw
          have HQ2 := Lib.hid HQ.out
          rw [any_drop L _ q hql] at HQ2
          obtain ⟨x, hx⟩ : ∃ x, L[q] = x := ⟨_, rfl⟩
          rw [hx] at p0' HQ2
          obtain ⟨x1, x2, x3⟩ := x
          simp only at p0'
          clear hx p0 hbw HQ HAN
          cases b with
          | true =>
            go_wp2_with fail
            go_roundw
            case rel => exact ⟨q + 1, true, by omega, rfl, by simp, HBW.out, rfl⟩
            case measure => simp [intOf]; omega
          | false =>
            by_cases hxy : x1 = y
            · have hxe : (x1.toList == y.toList) = true := by rw [bytes_beq]; exact decide_eq_true hxy
              go_wp2_with fail
              go_roundw
              case rel => exact ⟨q + 1, true, by omega, rfl, by simp, HBW.out, rfl⟩
              case measure => simp [intOf]; omega
            · have hxe : (x1.toList == y.toList) = false := by rw [bytes_beq]; exact decide_eq_false hxy
              have HQ3 : Hid ((false || (L.drop (q + 1)).any (fun x => decide (x.1 = y))) = true) := by
                have h := HQ2.out
                have h2 : decide (((x1, x2, x3) : NearD).1 = y) = false := decide_eq_false hxy
                rw [h2, Bool.false_or] at h
                exact h
              clear HQ2
              go_wp2_with fail
              go_roundw
              case rel => exact ⟨q + 1, false, by omega, rfl, by simp, HBW.out, HQ3⟩
              case measure => simp [intOf]; omega
        · obtain rfl : q = ln := by omega
          have hb1 : b = true := by
            have h := HQ.out
            rw [← HLN.out, List.drop_length] at h
            simpa using h
          subst hb1
          clear hbw HQ HAN
          go_wp2_with fail
          go_ret
          exact ⟨rfl, HBA.out.trans ((HB9.out.trans (HBW.out.mono HB9.out.size)).mono HBA.out.size)⟩
    · go_wp2_with fail
      go_quiet (fail)
      have HBq := Lib.hid (below_drewN HB8.out nq)
      clear t3 HB8
      generalize W8.drewN nq = W9 at HBq ⊢
      go_wp2_with fail
      refine (HM2.out W9 HBq.out).mono ?_
      rintro e w9 ⟨L, a9, c9, rfl, hb, hn, hll, han⟩
      have HB9 := Lib.hid hb
      have HN9 := Lib.hid hn
      obtain ⟨ln, hln⟩ : ∃ l, L.length = l := ⟨_, rfl⟩
      have HLN := Lib.hid hln
      rw [hln] at hll ⊢
      have HAN : Hid ((false || (L.drop 0).any (fun x => decide (x.1 = y))) = true) := han
      clear hb hn hln han
      go_wp2_with fail
      go_loopw [19, 20] (fun f i wr => ∃ (q : Nat) (b : Bool), q ≤ ln ∧ f = .bool b ∧ i = .int .i64 (q : Int) ∧ Below w9.heap.size w9 wr ∧ Hid ((b || (L.drop q).any (fun x => decide (x.1 = y))) = true)) (fun _ i _ => ln - (intOf i).toNat)
      case atStart => exact ⟨0, false, by omega, rfl, rfl, Below.refl _ _, HAN⟩
      case round =>
        obtain ⟨q, b, hq, rfl, rfl, hbw, HQ⟩ := hrel
        have HBW := Lib.hid hbw
        by_cases hlt : q < ln
        · have hql : q < L.length := by rw [HLN.out]; exact hlt
          have hq1 : (q : Int) < (ln : Int) := by omega
          obtain ⟨g9, e9, p0, _, _⟩ := HN9.out.cell q hql
          subst e9
          have p0' := cell_under p0 hbw
          have HQ2 := Lib.hid HQ.out
          rw [any_drop L _ q hql] at HQ2
          obtain ⟨x, hx⟩ : ∃ x, L[q] = x := ⟨_, rfl⟩
          rw [hx] at p0' HQ2
          obtain ⟨x1, x2, x3⟩ := x
          simp only at p0'
          clear hx p0 hbw HQ HAN
          cases b with
          | true =>
            go_wp2_with fail
            go_roundw
            case rel => exact ⟨q + 1, true, by omega, rfl, by simp, HBW.out, rfl⟩
            case measure => simp [intOf]; omega
          | false =>
            by_cases hxy : x1 = y
            · have hxe : (x1.toList == y.toList) = true := by rw [bytes_beq]; exact decide_eq_true hxy
              go_wp2_with fail
              go_roundw
              case rel => exact ⟨q + 1, true, by omega, rfl, by simp, HBW.out, rfl⟩
              case measure => simp [intOf]; omega
            · have hxe : (x1.toList == y.toList) = false := by rw [bytes_beq]; exact decide_eq_false hxy
              have HQ3 : Hid ((false || (L.drop (q + 1)).any (fun x => decide (x.1 = y))) = true) := by
                have h := HQ2.out
                have h2 : decide (((x1, x2, x3) : NearD).1 = y) = false := decide_eq_false hxy
                rw [h2, Bool.false_or] at h
                exact h
              clear HQ2
              go_wp2_with fail
              go_roundw
              case rel => exact ⟨q + 1, false, by omega, rfl, by simp, HBW.out, HQ3⟩
              case measure => simp [intOf]; omega
        · obtain rfl : q = ln := by omega
          have hb1 : b = true := by
            have h := HQ.out
            rw [← HLN.out, List.drop_length] at h
            simpa using h
          subst hb1
          clear hbw HQ HAN
          go_wp2_with fail
          go_ret
          exact ⟨rfl, HBA.out.trans ((HB9.out.trans (HBW.out.mono HB9.out.size)).mono HBA.out.size)⟩
end Go.Proofs.YtaakaajcpjiccaaDoor
