/-
  The reference's answer: what lies near a word. The reference's Same, at rows that are the same.
-/
import Derived.Test.YtaakaajcpjiccaaDoorNa37
import Derived.Test.YtaakaajcpjiccaaDoorNa24
set_option linter.unusedVariables false
set_option linter.unusedSimpArgs false
namespace Go.Proofs.YtaakaajcpjiccaaDoor
open Go.RowKit
open Go.Proofs

def nearN (n : Int) (s : ByteArray) (k : Int) : List NearD := if (1 ≤ n ∧ n ≤ 5) ∧ (0 ≤ k ∧ k ≤ 3) then nearL (rowB n) s k.toNat else []
theorem row_cell {w : World} {B : Nat} {a : Option Addr} {len c : Nat} {R : List ByteArray} (h : OwnS w B (.slice a len c) R) (hlen : R.length = len) (i : Nat) (hi : i < len) : ∃ g, a = some ⟨g, 0, none⟩ ∧ w.cell? ⟨g, i, none⟩ = some (.string (atR R i)) := by
  obtain ⟨a', c', h1, h2⟩ := h.sl
  simp only [Value.slice.injEq] at h1
  obtain ⟨rfl, -, rfl⟩ := h1
  rcases h2 with h2 | ⟨g, rfl, h3⟩
  · rw [h2] at hlen; simp at hlen; omega
  · exact ⟨g, rfl, h3 i (by omega)⟩
set_option maxRecDepth 100000 in
set_option maxHeartbeats 4000000 in
theorem rnear_any (n k : Int) (s : ByteArray) (hs : s.size ≤ 1000) (w : World) : Calls Tryd.prog 13 #[.int .i64 n, .string s, .int .i64 k] w fun e w' => ∃ v, e = .returned v ∧ OwnNe w' w.heap.size v (nearN n s k) ∧ Below w.heap.size w w' := by
  by_cases hok : (1 ≤ n ∧ n ≤ 5) ∧ (0 ≤ k ∧ k ≤ 3)
  · have HN : Hid (nearN n s k = nearL (rowB n) s k.toNat) := by show _ = _; rw [nearN, if_pos hok]
    obtain ⟨⟨h1, h2⟩, h3, h4⟩ := hok
    obtain ⟨kk, rfl⟩ : ∃ kk : Nat, k = (kk : Int) := ⟨k.toNat, by omega⟩
    rw [Int.toNat_natCast] at HN
    obtain ⟨i0, hi, hz0, hz1, hz2⟩ := info_parts info_I
    obtain ⟨j0, hj, hy0, hy1, hy2⟩ := info_parts info_near
    have hle := rowB_le n
    go_enter Tryd.func13, Tryd.ntmps13
    go_wp2_with fail
    refine (rrow_any n w).mono ?_
    rintro e w1 ⟨v, rfl, hown, hb1⟩
    obtain ⟨R, hR⟩ : ∃ R, rowB n = R := ⟨_, rfl⟩
    have HSH : Hid (∀ i, (atR R i).size ≤ 16) := by show _; rw [← hR]; exact atR_short n
    rw [hR] at hown hle HN
    clear hR
    obtain ⟨a, c, hv⟩ : ∃ a c, v = .slice a R.length c := by
      obtain ⟨a, c, h, _⟩ := hown.sl
      exact ⟨a, c, h⟩
    subst hv
    have HB1 := Lib.hid hb1
    have HOWN := Lib.hid hown
    clear hown hb1
    obtain ⟨len, hlen⟩ : ∃ l, R.length = l := ⟨_, rfl⟩
    have HLEN := Lib.hid hlen
    rw [hlen] at hle HOWN ⊢
    clear hlen
    go_wp2_with fail
    go_loopw [8, 9] (fun v i wr => ∃ j : Nat, j ≤ len ∧ i = .int .i64 (j : Int) ∧ OwnN wr w1.heap.size v (distL R s j) ∧ Below w1.heap.size w1 wr) (fun _ i _ => len - (intOf i).toNat)
    case atStart => exact ⟨0, by omega, rfl, World.ownsRow_nil _ _ _ _, Below.refl _ _⟩
    case round =>
      obtain ⟨j, hjl, rfl, hown, hbw⟩ := hrel
      have HBW := Lib.hid hbw
      by_cases hlt : j < len
      · obtain ⟨g, rfl, hc⟩ := row_cell HOWN.out HLEN.out j hlt
        have hcell := cell_under hc hbw
        have hj1 : (j : Int) < (len : Int) := by omega
        have HO := Lib.hid hown
        clear hc hown hbw
        go_wp2_with fail
        refine (refDistance_any s (atR R j) wr hs (by have := HSH.out j; omega)).mono ?_
        rintro e w3 ⟨rfl, hb3⟩
        have HB3 := Lib.hid (HBW.out.trans (hb3.mono HBW.out.size))
        have hown3 := own_under HO.out hb3
        have hll := distL_length R s j
        clear hb3 hcell
        go_wp2_with (at_builtin; refine wpList_append_own _ rfl _ _ 54 rfl w1.heap.size 3 i0 _ 1 8 Tryd.underlying54 hi hz0 hz1 hz2 rfl (by decide) u8 (distL R s j).length (natsV (distL R s j)) rfl (hown3.alloc _) ⟨w3.heap.size, 0, none⟩ 1 1 [.int .i64 (dist s.toList (atR R j).toList : Nat)] rfl rfl ?c1 ?c2 ?c3 ?c4 ?c5 ?_)
        case c1 =>
          intro i u hi'
          rw [addPlain]
          exact cellNew w3 _ _ i u (by rw [← hi']; rcases i with _ | i <;> rfl)
        case c2 => intro u hu; simp only [List.mem_singleton] at hu; subst hu; rfl
        case c3 => unfold maxLen; omega
        case c4 => omega
        case c5 => have := HB3.out.size; rw [World.size_alloc]; omega
        intro v' w5 hown' hgrow hnn
        have HNX : Hid (OwnN w5 w1.heap.size v' (distL R s (j + 1)) ∧ Below w1.heap.size w1 w5) := by
          refine ⟨?_, (HB3.out.alloc HB3.out.size _).grown hgrow (by have := HB3.out.size; rw [World.size_alloc]; omega) (fun q' hq' => (World.ownsRow.lt hown3 q' hq').1)⟩
          rw [distL_succ]
          unfold OwnN natsV
          rw [List.length_append, hll, List.map_append]
          exact hown'
        clear hown' hgrow hnn hown3
        go_wp2_with fail
        go_roundw
        case rel => exact ⟨j + 1, by omega, by simp, HNX.out.1, HNX.out.2⟩
        case measure => simp [intOf]; omega
      · obtain rfl : j = len := by omega
        have hrow : ∀ i, i < j → ∃ g, a = some ⟨g, 0, none⟩ ∧ wr.cell? ⟨g, i, none⟩ = some (.string (atR R i)) := fun i hi => by
          obtain ⟨g, h1, h2⟩ := row_cell HOWN.out HLEN.out i hi
          exact ⟨g, h1, cell_under h2 hbw⟩
        have hdl := distL_length R s j
        obtain ⟨ad, cd, hud, hdist⟩ : ∃ ad cd, u8 = .slice ad j cd ∧ ∀ i, i < j → ∃ g, ad = some ⟨g, 0, none⟩ ∧ wr.cell? ⟨g, i, none⟩ = some (.int .i64 (dstR R s i : Nat)) := by
          by_cases h0 : 0 < j
          · have hown2 := hown
            unfold OwnN at hown2
            rw [hdl] at hown2
            obtain ⟨gd, cd, rfl⟩ := form_of hown2 h0
            exact ⟨_, cd, rfl, fun i hi => ⟨gd, rfl, (OwnN.at hown i (dstR R s i) (distL_at R s j i hi)).1⟩⟩
          · rcases hown.2 with ⟨h1, h2⟩ | ⟨g, cap, cur, h1, _⟩
            · exact ⟨none, 0, by rw [h1]; have : j = 0 := by omega
                                 rw [this], fun i hi => by omega⟩
            · exact ⟨_, cap, by rw [h1, hdl], fun i hi => by omega⟩
        subst hud
        have HX := Lib.hid (HB1.out.trans (hbw.mono HB1.out.size))
        have HROW := Lib.hid hrow
        have HDIST := Lib.hid hdist
        clear hrow hdist hown hbw HBW HOWN
        go_wp2_with fail
        generalize hXX : wr = X at HX HROW HDIST ⊢
        go_loopw [10, 11, 12] (fun v d _ wr => ∃ dd : Nat, dd ≤ kk + 1 ∧ d = .int .i64 (dd : Int) ∧ OwnNe wr X.heap.size v (nearTo R s dd 0) ∧ Below X.heap.size X wr) (fun _ d _ _ => kk + 1 - (intOf d).toNat)
        case atStart => exact ⟨0, by omega, rfl, World.ownsRow_nil _ _ _ _, Below.refl _ _⟩
        case round =>
          obtain ⟨dd, hdk, rfl, hown, hbw⟩ := hrel
          have HO := Lib.hid hown
          have HBW := Lib.hid hbw
          clear hown hbw
          by_cases hld : dd < kk + 1
          · have hd1 : (dd : Int) ≤ (kk : Int) := by omega
            go_wp2_with fail
            go_loopw [10, 12] (fun v i wr => ∃ i' : Nat, i' ≤ j ∧ i = .int .i64 (i' : Int) ∧ OwnNe wr X.heap.size v (nearTo R s dd i') ∧ Below X.heap.size X wr) (fun _ i _ => j - (intOf i).toNat)
            case atStart => exact ⟨0, by omega, rfl, HO.out, HBW.out⟩
            case round =>
              clear HO HBW
              obtain ⟨i, hij, rfl, hown, hbw⟩ := hrel
              have HBW := Lib.hid hbw
              by_cases hli : i < j
              · have hi1 : (i : Int) < (j : Int) := by omega
                obtain ⟨g, rfl, hc⟩ := HROW.out i hli
                obtain ⟨gd, rfl, hcd⟩ := HDIST.out i hli
                have k1 := cell_under hc hbw
                have k2 := cell_under hcd hbw
                have hsc := nearTo_succ R s dd i
                have hnl := nearTo_le R s dd i (by rw [HLEN.out]; omega)
                have hmul : (dd + 1) * R.length ≤ 4 * 1056 := Nat.mul_le_mul (by omega) (by rw [HLEN.out]; omega)
                cases hq : (dstR R s i == dd) with
                | false =>
                  have hqi : (((dstR R s i : Nat) : Int) == (dd : Int)) = false := by
                    rw [beq_eq_false_iff_ne] at hq ⊢
                    omega
                  have HSC : Hid (nearTo R s dd (i + 1) = nearTo R s dd i) := by show _ = _; rw [hsc, hq]; simp
                  have HO := Lib.hid hown
                  clear hsc hnl hown hbw hc hcd hmul
                  go_wp2_with fail
                  go_roundw
                  case rel => exact ⟨i + 1, by omega, by simp, by rw [HSC.out]; exact HO.out, HBW.out⟩
                  case measure => simp [intOf]; omega
                | true =>
                  have hqi : (((dstR R s i : Nat) : Int) == (dd : Int)) = true := by rw [beq_iff_eq] at hq ⊢; omega
                  have HSC : Hid (nearTo R s dd (i + 1) = nearTo R s dd i ++ [(atR R i, dd, i)]) := by show _ = _; rw [hsc, hq]; simp
                  unfold OwnNe at hown
                  clear hsc hbw hc hcd
                  go_wp2_with (at_builtin; refine wpList_append_own _ rfl _ _ 26 rfl X.heap.size 42 j0 _ 3 32 Tryd.underlying26 hj hy0 hy1 hy2 rfl (by decide) u10 (nearTo R s dd i).length ((nearTo R s dd i).flatMap nearV) rfl (hown.alloc _) ⟨wr.heap.size, 0, none⟩ 1 1 (nearV (atR R i, dd, i)) rfl rfl ?c1 ?c2 ?c3 ?c4 ?c5 ?_)
                  case c1 =>
                    intro i' u hi'
                    rw [addPlain]
                    exact cellNew wr _ _ i' u (by rw [← hi']; rcases i' with _ | _ | _ | i' <;> rfl)
                  case c2 =>
                    intro u hu
                    simp only [nearV, List.mem_cons, List.not_mem_nil, or_false] at hu
                    rcases hu with rfl | rfl | rfl <;> rfl
                  case c3 => unfold maxLen; omega
                  case c4 => omega
                  case c5 => have := HBW.out.size; rw [World.size_alloc]; omega
                  intro v' w5 hown' hgrow hnn
                  have HNX : Hid (OwnNe w5 X.heap.size v' (nearTo R s dd (i + 1)) ∧ Below X.heap.size X w5) := by
                    refine ⟨?_, (HBW.out.alloc HBW.out.size _).grown hgrow (by have := HBW.out.size; rw [World.size_alloc]; omega) (fun q' hq' => (World.ownsRow.lt hown q' hq').1)⟩
                    rw [HSC.out]
                    unfold OwnNe
                    rw [List.length_append, List.flatMap_append]
                    have e : List.flatMap nearV [(atR R i, dd, i)] = nearV (atR R i, dd, i) := by simp
                    rw [e]
                    exact hown'
                  clear hown' hgrow hnn hown
                  go_wp2_with fail
                  go_roundw
                  case rel => exact ⟨i + 1, by omega, by simp, HNX.out.1, HNX.out.2⟩
                  case measure => simp [intOf]; omega
              · obtain rfl : i = j := by omega
                have HO := Lib.hid hown
                clear hown hbw
                go_wp2_with fail
                go_roundw
                case rel => exact ⟨dd + 1, by omega, by simp, by rw [nearTo_next, HLEN.out]; exact HO.out, HBW.out⟩
                case measure => simp [intOf]; omega
          · obtain rfl : dd = kk + 1 := by omega
            have hd1 : (kk : Int) < ((kk + 1 : Nat) : Int) := by omega
            go_wp2_with fail
            go_ret
            exact ⟨_, rfl, by rw [HN.out, ← nearTo_all]; exact ownBase HO.out HX.out.size, HX.out.trans (HBW.out.mono HX.out.size)⟩
  · have HN : Hid (nearN n s k = []) := by show _ = _; rw [nearN, if_neg hok]
    by_cases h1 : n < 1
    · clear hok
      go_enter Tryd.func13, Tryd.ntmps13
      go_wp2_with fail
      go_ret
      exact ⟨_, rfl, by rw [HN.out]; exact World.ownsRow_nil _ _ _ _, Below.refl _ _⟩
    · have h1' : 1 ≤ n := by omega
      by_cases h2 : 5 < n
      · clear hok
        go_enter Tryd.func13, Tryd.ntmps13
        go_wp2_with fail
        go_ret
        exact ⟨_, rfl, by rw [HN.out]; exact World.ownsRow_nil _ _ _ _, Below.refl _ _⟩
      · have h2' : n ≤ 5 := by omega
        by_cases h3 : k < 0
        · clear hok
          go_enter Tryd.func13, Tryd.ntmps13
          go_wp2_with fail
          go_ret
          exact ⟨_, rfl, by rw [HN.out]; exact World.ownsRow_nil _ _ _ _, Below.refl _ _⟩
        · have h3' : 0 ≤ k := by omega
          have h4 : 3 < k := by omega
          clear hok
          go_enter Tryd.func13, Tryd.ntmps13
          go_wp2_with fail
          go_ret
          exact ⟨_, rfl, by rw [HN.out]; exact World.ownsRow_nil _ _ _ _, Below.refl _ _⟩
end Go.Proofs.YtaakaajcpjiccaaDoor
namespace Go.Proofs.YtaakaajcpjiccaaDoor
open Go.RowKit
open Go.Proofs

/-- A row of what lies near, as a slice has it. -/
def NeAt (w : World) (a : Option Addr) (L : List NearD) : Prop := L = [] ∨ ∃ g, a = some ⟨g, 0, none⟩ ∧ w.rangeAt g 0 (L.flatMap nearV)
theorem NeAt.cell {w : World} {a : Option Addr} {L : List NearD} (h : NeAt w a L) (k : Nat) (hk : k < L.length) : ∃ g, a = some ⟨g, 0, none⟩ ∧ w.cell? ⟨g, k * 3, none⟩ = some (.string (L[k]).1) ∧ w.cell? ⟨g, k * 3 + 1, none⟩ = some (.int .i64 ((L[k]).2.1 : Int)) ∧ w.cell? ⟨g, k * 3 + 2, none⟩ = some (.int .i64 ((L[k]).2.2 : Int)) := by
  rcases h with rfl | ⟨g, rfl, h⟩
  · simp at hk
  · have h1 := flat_take nearV 3 L (fun a _ => rfl) k hk
    have hc : ∀ j v, (nearV L[k])[j]? = some v → w.cell? ⟨g, k * 3 + j, none⟩ = some v := fun j v hj => by
      have := h (k * 3 + j) v (by
        rw [← h1, List.getElem?_take] at hj
        split at hj
        · rw [List.getElem?_drop] at hj; exact hj
        · cases hj)
      rw [Nat.zero_add] at this
      exact this
    exact ⟨g, rfl, hc 0 _ rfl, hc 1 _ rfl, hc 2 _ rfl⟩
set_option maxRecDepth 100000 in
set_option maxHeartbeats 4000000 in
theorem same_yes (L : List NearD) (a1 a2 : Option Addr) (c1 c2 : Nat) (w : World) (hle : L.length ≤ 100000) (h1 : NeAt w a1 L) (h2 : NeAt w a2 L) : Calls Tryd.prog 11 #[.slice a1 L.length c1, .slice a2 L.length c2] w fun e w' => e = .returned (.bool true) ∧ Below w.heap.size w w' := by
  obtain ⟨len, hlen⟩ : ∃ l, L.length = l := ⟨_, rfl⟩
  have HLEN := Lib.hid hlen
  rw [hlen] at hle ⊢
  clear hlen
  go_enter Tryd.func11, Tryd.ntmps11
  go_wp2_with fail
  go_loopw [5] (fun i wr => ∃ k : Nat, k ≤ len ∧ i = .int .i64 (k : Int) ∧ Below w.heap.size w wr) (fun i _ => len - (intOf i).toNat)
  case atStart => exact ⟨0, by omega, rfl, Below.refl _ _⟩
  case round =>
    obtain ⟨k, hk, rfl, hbw⟩ := hrel
    have HBW := Lib.hid hbw
    by_cases hlt : k < len
    · have hkl : k < L.length := by rw [HLEN.out]; exact hlt
      have hk1 : (k : Int) < (len : Int) := by omega
      obtain ⟨g1, rfl, p0, p1, p2⟩ := h1.cell k hkl
      obtain ⟨g2, rfl, q0, q1, q2⟩ := h2.cell k hkl
      have p0' := cell_under p0 hbw
      have p1' := cell_under p1 hbw
      have p2' := cell_under p2 hbw
      have q0' := cell_under q0 hbw
      have q1' := cell_under q1 hbw
      have q2' := cell_under q2 hbw
      obtain ⟨x, hx⟩ : ∃ x, L[k] = x := ⟨_, rfl⟩
      rw [hx] at p0' p1' p2' q0' q1' q2'
      obtain ⟨x1, x2, x3⟩ := x
      simp only at p0' p1' p2' q0' q1' q2'
      clear hx p0 p1 p2 q0 q1 q2 hbw
      go_wp2_with fail
      go_quiet (fail)
      go_wp2_with fail
      go_roundw
      case rel => exact ⟨k + 1, by omega, by simp, below_drewN HBW.out _⟩
      case measure => simp [intOf]; omega
    · obtain rfl : k = len := by omega
      clear hbw
      go_wp2_with fail
      go_ret
      exact ⟨rfl, HBW.out⟩
end Go.Proofs.YtaakaajcpjiccaaDoor
