/-
  The reference's symbols: all of a notation. The reference's row of a notation's symbols.
-/
import Derived.OwnWalk
import Derived.Laws.AppendOwn
import Derived.Test.YtaakaajcpjiccaaDoorNa35
import Derived.Test.YtaakaajcpjiccaaDoorNa15
import Derived.Test.YtaakaajcpjiccaaDoorNa24
set_option linter.unusedVariables false
set_option linter.unusedSimpArgs false
namespace Go.Proofs.YtaakaajcpjiccaaDoor
open Go.RowKit
open Go.Proofs

theorem rtab_book (w : World) : Calls Tryd.prog 62 #[] w (TabB w) := (refTable_ok w).mono fun e w' h => by
  obtain ⟨a1, c1, a2, c2, ss, rfl, ht, hb⟩ := h
  obtain ⟨g, cap, hg⟩ := form_of ht.atoms (by omega)
  simp only [Value.slice.injEq] at hg
  obtain ⟨rfl, -, rfl⟩ := hg
  obtain ⟨g2, cap, hg2⟩ := form_of ht.pres (by omega)
  simp only [Value.slice.injEq] at hg2
  obtain ⟨rfl, -, rfl⟩ := hg2
  have hr := rangeOf ht.atoms 0 (48 * 12) (atomsL (tabD ss)) (by
    rw [List.drop_zero, tabD_cells ss ht.slices, List.take_of_length_le]
    rw [atomsL_length, tabD_length]
    exact Nat.le_refl _)
  have hp := rangeOf ht.pres 0 (20 * 6) (presV tabPres) (by
    rw [List.drop_zero, List.take_of_length_le]
    decide +kernel)
  refine ⟨g, c1, g2, c2, ss, rfl, ⟨hr, (World.ownsRow.lt ht.atoms g rfl).2, hp, (World.ownsRow.lt ht.pres g2 rfl).2⟩, (World.ownsRow.lt ht.atoms g rfl).1, (World.ownsRow.lt ht.pres g2 rfl).1, ⟨block_of_row ht.atoms, block_of_row ht.pres⟩, hb⟩
theorem own_under {w w' : World} {B e z n : Nat} {v : Value} {xs : List Value} (h : w.ownsRow B e z v n xs) (hb : Below w.heap.size w w') : w'.ownsRow B e z v n xs := by
  refine h.kept (grownBy_below (B := 0) hb none) ?_
  rcases h.2 with ⟨rfl, _⟩ | ⟨g, cap, cur, rfl, _, hgb, _⟩
  · exact .inl rfl
  · exact .inr (by simp [Value.ownBlock])
def itemV (x : SymD) : List Value := [.string ⟨x.1.toArray⟩, .int .i64 ((x.2.1 : Int) - 1), .int .i64 (x.2.2 : Int)]
def OwnI (w : World) (B : Nat) (v : Value) (l : List SymD) : Prop := w.ownsRow B 76 3 v l.length (l.flatMap itemV)
theorem info_item : (Tryd.prog.info? 76).map (fun i => (i.zero, i.size, i.bytes)) = some (some (.agg #[.string ⟨#[]⟩, .int .i64 0, .int .i64 0]), 3, 32) := by kernel_rfl
set_option maxRecDepth 100000 in
set_option maxHeartbeats 4000000 in
theorem rall_any (n : Int) (w : World) : Calls Tryd.prog 40 #[.int .i64 n] w fun e w' => ∃ v, e = .returned v ∧ OwnI w' w.heap.size v (symsN n) ∧ Below w.heap.size w w' := by
  obtain ⟨i0, hi, hz0, hz1, hz2⟩ := info_parts info_item
  go_enter Tryd.func40, Tryd.ntmps40
  go_wp2_with fail
  refine (rtab_book w).mono ?_
  rintro e w1 ⟨g, c1, g2, c2, ss, rfl, hB, hg, hg2, -, hb1⟩
  have hV : Below w.heap.size w (w1.alloc (.cells #[.slice (some ⟨g, 0, none⟩) 48 c1, .slice (some ⟨g2, 0, none⟩) 20 c2] 89)) := hb1.alloc hb1.size _
  have HV := Lib.hid hV
  have HB := Lib.hid (hB.below ((Below.refl _ _).alloc (Nat.le_refl _) (.cells #[.slice (some ⟨g, 0, none⟩) 48 c1, .slice (some ⟨g2, 0, none⟩) 20 c2] 89)))
  have t0 := cellNew w1 #[.slice (some ⟨g, 0, none⟩) 48 c1, .slice (some ⟨g2, 0, none⟩) 20 c2] 89 0 _ rfl
  have t1 := cellNew w1 #[.slice (some ⟨g, 0, none⟩) 48 c1, .slice (some ⟨g2, 0, none⟩) 20 c2] 89 1 _ rfl
  have hsz : w1.heap.size < (w1.alloc (.cells #[.slice (some ⟨g, 0, none⟩) 48 c1, .slice (some ⟨g2, 0, none⟩) 20 c2] 89)).heap.size := by simp
  have hw1 : w.heap.size ≤ w1.heap.size := hb1.size
  clear hB hb1 hV
  go_wp2_with fail
  generalize w1.alloc (.cells #[.slice (some ⟨g, 0, none⟩) 48 c1, .slice (some ⟨g2, 0, none⟩) 20 c2] 89) = V at HV HB t0 t1 hsz ⊢
  generalize w1.heap.size = Tb at t0 t1 hsz hw1 ⊢
  by_cases hn : 1 ≤ n ∧ n ≤ 5
  · obtain ⟨m, rfl⟩ : ∃ m : Nat, n = (m : Int) + 1 := ⟨n.toNat - 1, by omega⟩
    have hm : m < 5 := by omega
    have HS : Hid (symsN ((m : Int) + 1) = symsTo m 21 0) := by show _ = _; rw [symsN, if_pos hn, symsTo_all]; simp
    have hn1 : 1 ≤ (m : Int) + 1 := hn.1
    have hn5 : (m : Int) + 1 ≤ 5 := hn.2
    clear hn
    go_loopw [3, 5, 6, 7] (fun v p _ _ wr => ∃ q : Nat, q ≤ 21 ∧ p = .int .i64 ((q : Int) - 1) ∧ OwnI wr V.heap.size v (symsTo m q 0) ∧ Below V.heap.size V wr) (fun _ p _ _ _ => 21 - (intOf p + 1).toNat)
    case atStart => exact ⟨0, by omega, rfl, World.ownsRow_nil _ _ _ _, Below.refl _ _⟩
    case round =>
      obtain ⟨q, hq, rfl, hown, hbw⟩ := hrel
      have t0w := cell_under t0 hbw
      have t1w := cell_under t1 hbw
      have HOWN := Lib.hid hown
      have HBW := Lib.hid hbw
      clear hown hbw
      by_cases hlt : q < 21
      · have hq20 : (q : Int) - 1 < 20 := by omega
        go_wp2_with fail
        go_loopw [3, 6, 7] (fun v i _ wr => ∃ k : Nat, k ≤ 48 ∧ i = .int .i64 (k : Int) ∧ OwnI wr V.heap.size v (symsTo m q k) ∧ Below V.heap.size V wr) (fun _ i _ _ => 48 - (intOf i).toNat)
        case atStart => exact ⟨0, by omega, rfl, HOWN.out, HBW.out⟩
        case round =>
          clear t0w t1w HOWN HBW
          obtain ⟨k, hk, rfl, hown, hbw⟩ := hrel
          have t0w := cell_under t0 hbw
          have t1w := cell_under t1 hbw
          have HBK := Lib.hid (HB.out.below hbw)
          have HOWN := Lib.hid hown
          have HBW := Lib.hid hbw
          clear hown hbw
          by_cases hlk : k < 48
          · have hk48 : (k : Int) < 48 := by omega
            have HSC := Lib.hid (symsTo_succ m q k)
            go_wp2_with fail
            refine (rtold_any g c1 g2 c2 m q k ss _ hm hlt hlk HBK.out).mono ?_
            rintro e w3 ⟨rfl, hb3⟩
            have HB3 := Lib.hid (HBW.out.trans (hb3.mono HBW.out.size))
            have HBK3 := Lib.hid (HBK.out.below hb3)
            have HOWN3 : Hid (OwnI w3 V.heap.size u3 (symsTo m q k)) := own_under HOWN.out hb3
            have t03 := cell_under t0w hb3
            have t13 := cell_under t1w hb3
            clear hb3 t0w t1w HOWN HBK
            cases ht : toldF m q k with
            | false =>
              rw [ht] at HSC
              go_wp2_with fail
              go_roundw
              case rel => exact ⟨k + 1, by omega, by simp, by rw [HSC.out]; simpa using HOWN3.out, HB3.out⟩
              case measure => simp [intOf]; omega
            | true =>
              rw [ht] at HSC
              go_wp2_with fail
              refine (rtext_any g c1 g2 c2 m q k ss _ hm hlt hlk HBK3.out).mono ?_
              rintro e w4 ⟨rfl, hb4⟩
              have HB4 := Lib.hid (HB3.out.trans (hb4.mono HB3.out.size))
              have hown4 : OwnI w4 V.heap.size u3 (symsTo m q k) := own_under HOWN3.out hb4
              have hle := symsTo_le m q k (by omega) (by omega)
              clear hb4 t03 t13 HOWN3 HBK3
              unfold OwnI at hown4
              go_wp2_with (at_builtin; refine wpList_append_own _ rfl _ _ 73 rfl V.heap.size 76 i0 _ 3 32 Tryd.underlying73 hi hz0 hz1 hz2 rfl (by decide) u3 (symsTo m q k).length ((symsTo m q k).flatMap itemV) rfl (hown4.alloc _) ⟨w4.heap.size, 0, none⟩ 1 1 (itemV (textF m q k, q, k)) rfl rfl ?c1 ?c2 ?c3 ?c4 ?c5 ?_)
              case c1 =>
                intro j u hj
                rw [addPlain]
                exact cellNew w4 _ _ j u (by rw [← hj]; rcases j with _ | _ | _ | j <;> rfl)
              case c2 =>
                intro u hu
                simp only [itemV, List.mem_cons, List.not_mem_nil, or_false] at hu
                rcases hu with rfl | rfl | rfl <;> rfl
              case c3 => unfold maxLen; omega
              case c4 => omega
              case c5 => have := HB4.out.size; rw [World.size_alloc]; omega
              intro v' w5 hown' hgrow hnn
              have HN : Hid (OwnI w5 V.heap.size v' (symsTo m q (k + 1)) ∧ Below V.heap.size V w5) := by
                refine ⟨?_, (HB4.out.alloc HB4.out.size _).grown hgrow (by have := HB4.out.size; rw [World.size_alloc]; omega) (fun q' hq' => (World.ownsRow.lt hown4 q' hq').1)⟩
                rw [HSC.out]
                simp only [if_true]
                unfold OwnI
                rw [List.length_append, List.flatMap_append]
                have e : List.flatMap itemV [(textF m q k, q, k)] = itemV (textF m q k, q, k) := by simp
                rw [e]
                exact hown'
              clear hown' hgrow hnn hown4
              go_wp2_with fail
              go_roundw
              case rel => exact ⟨k + 1, by omega, by simp, HN.out.1, HN.out.2⟩
              case measure => simp [intOf]; omega
          · obtain rfl : k = 48 := by omega
            go_wp2_with fail
            go_roundw
            case rel => exact ⟨q + 1, by omega, by simp, by rw [symsTo_next]; exact HOWN.out, HBW.out⟩
            case measure => simp [intOf]; omega
      · obtain rfl : q = 21 := by omega
        go_wp2_with fail
        go_ret
        refine ⟨_, rfl, by rw [HS.out]; exact ownBase HOWN.out HV.out.size, HV.out.trans (HBW.out.mono HV.out.size)⟩
  · have HS : Hid (symsN n = []) := by show _ = _; rw [symsN, if_neg hn]
    go_loopw [3, 5] (fun v p wr => v = .slice none 0 0 ∧ p = .int .i64 (-1) ∧ wr = V) (fun _ _ _ => 0)
    case atStart => exact ⟨rfl, rfl, rfl⟩
    case round =>
      obtain ⟨rfl, rfl, rfl⟩ := hrel
      by_cases h1 : 1 ≤ n
      · have h5 : 5 < n := by omega
        clear hn
        go_wp2_with fail
        go_ret
        exact ⟨_, rfl, by rw [HS.out]; exact World.ownsRow_nil _ _ _ _, HV.out⟩
      · have h5 : n < 1 := by omega
        clear hn
        go_wp2_with fail
        go_ret
        exact ⟨_, rfl, by rw [HS.out]; exact World.ownsRow_nil _ _ _ _, HV.out⟩
end Go.Proofs.YtaakaajcpjiccaaDoor
namespace Go.Proofs.YtaakaajcpjiccaaDoor
open Go.RowKit
open Go.Proofs

theorem symsN_le (n : Int) : (symsN n).length ≤ 1056 := by
  unfold symsN
  split
  · rw [← symsTo_all]; exact symsTo_le _ 21 0 (by omega) (by omega)
  · simp
theorem itemV_length (x : SymD) : (itemV x).length = 3 := rfl
/-- The text of an item. -/
theorem item_cell {w : World} {B g c : Nat} {l : List SymD} (h : OwnI w B (.slice (some ⟨g, 0, none⟩) l.length c) l) (k : Nat) (hk : k < l.length) : w.cell? ⟨g, k * 3, none⟩ = some (.string ⟨(l[k]).1.toArray⟩) := by
  have h1 := flat_take itemV 3 l (fun a _ => itemV_length a) k hk
  have h2 := rangeOf h (k * 3) 3 (itemV l[k]) h1 0 _ rfl
  exact h2
def rowUpTo (n : Int) (k : Nat) : List ByteArray := (rowB n).take k
set_option maxRecDepth 100000 in
set_option maxHeartbeats 4000000 in
theorem rrow_any (n : Int) (w : World) : Calls Tryd.prog 26 #[.int .i64 n] w fun e w' => ∃ v, e = .returned v ∧ OwnS w' w.heap.size v (rowB n) ∧ Below w.heap.size w w' := by
  obtain ⟨i0, hi, hz0, hz1, hz2⟩ := info_parts info_str
  have hle := symsN_le n
  have hrl : (rowB n).length = (symsN n).length := by simp [rowB]
  go_enter Tryd.func26, Tryd.ntmps26
  go_wp2_with fail
  refine (rall_any n w).mono ?_
  rintro e w1 ⟨v, rfl, hown, hb1⟩
  have HOWN := Lib.hid hown
  obtain ⟨a, c, hv⟩ : ∃ a c, v = .slice a (symsN n).length c := by
    rcases hown.2 with ⟨h1, h2⟩ | ⟨g, cap, cur, h1, _⟩
    · exact ⟨none, 0, by rw [h1, h2]⟩
    · exact ⟨_, _, h1⟩
  subst hv
  have HB1 := Lib.hid hb1
  clear hown hb1
  obtain ⟨len, hlen⟩ : ∃ l, (symsN n).length = l := ⟨_, rfl⟩
  have HLEN := Lib.hid hlen
  rw [hlen] at hle hrl ⊢
  clear hlen
  go_wp2_with fail
  go_loopw [4, 5] (fun v i wr => ∃ k : Nat, k ≤ len ∧ i = .int .i64 (k : Int) ∧ OwnS wr w1.heap.size v (rowUpTo n k) ∧ Below w1.heap.size w1 wr) (fun _ i _ => len - (intOf i).toNat)
  case atStart => exact ⟨0, by omega, rfl, World.ownsRow_nil _ _ _ _, Below.refl _ _⟩
  case round =>
    obtain ⟨k, hk, rfl, hown, hbw⟩ := hrel
    by_cases hlt : k < len
    · have hkl : k < (symsN n).length := by rw [HLEN.out]; exact hlt
      obtain ⟨g, c', hform⟩ := form_of HOWN.out (by omega)
      simp only [Value.slice.injEq] at hform
      obtain ⟨rfl, -, rfl⟩ := hform
      have hcell := cell_under (item_cell HOWN.out k hkl) hbw
      obtain ⟨tx, htx⟩ : ∃ t : ByteArray, (⟨((symsN n)[k]).1.toArray⟩ : ByteArray) = t := ⟨_, rfl⟩
      rw [htx] at hcell
      have HR : Hid (rowUpTo n (k + 1) = rowUpTo n k ++ [tx]) := by
        show _ = _
        unfold rowUpTo
        rw [List.take_add_one, List.getElem?_eq_getElem (by rw [hrl]; exact hlt)]
        simp [rowB, ← htx]
      have hrk : (rowUpTo n k).length ≤ 1056 := by unfold rowUpTo; rw [List.length_take]; omega
      have HBW := Lib.hid hbw
      have hl1 : (k : Int) < (len : Int) := by omega
      unfold OwnS at hown
      clear htx hbw HOWN
      go_wp2_with (at_builtin; refine wpList_append_own _ rfl _ _ 29 rfl w1.heap.size 9 i0 _ 1 16 Tryd.underlying29 hi hz0 hz1 hz2 rfl (by decide) u4 (rowUpTo n k).length ((rowUpTo n k).map Value.string) rfl (hown.alloc _) ⟨wr.heap.size, 0, none⟩ 1 1 [.string tx] rfl rfl ?c1 ?c2 ?c3 ?c4 ?c5 ?_)
      case c1 =>
        intro j u hj
        rw [addPlain]
        exact cellNew wr _ _ j u (by rw [← hj]; rcases j with _ | j <;> rfl)
      case c2 => intro u hu; simp only [List.mem_singleton] at hu; subst hu; rfl
      case c3 => unfold maxLen; omega
      case c4 => omega
      case c5 => have := HBW.out.size; rw [World.size_alloc]; omega
      intro v' w5 hown' hgrow hnn
      have HN : Hid (OwnS w5 w1.heap.size v' (rowUpTo n (k + 1)) ∧ Below w1.heap.size w1 w5) := by
        refine ⟨?_, (HBW.out.alloc HBW.out.size _).grown hgrow (by have := HBW.out.size; rw [World.size_alloc]; omega) (fun q' hq' => (World.ownsRow.lt hown q' hq').1)⟩
        rw [HR.out]
        unfold OwnS
        rw [List.length_append, List.map_append]
        exact hown'
      clear hown' hgrow hnn hown
      go_wp2_with fail
      go_roundw
      case rel => exact ⟨k + 1, by omega, by simp, HN.out.1, HN.out.2⟩
      case measure => simp [intOf]; omega
    · obtain rfl : k = len := by omega
      have HE : Hid (rowUpTo n k = rowB n) := by show _ = _; unfold rowUpTo; rw [← hrl, List.take_length]
      have HOW := Lib.hid hown
      have HBW := Lib.hid hbw
      clear hown hbw
      go_wp2_with fail
      go_ret
      exact ⟨_, rfl, by rw [← HE.out]; exact ownBase HOW.out HB1.out.size, HB1.out.trans (HBW.out.mono HB1.out.size)⟩
end Go.Proofs.YtaakaajcpjiccaaDoor
