/-
  edit.Distance; the reference's Distance. The reference's Distance.
-/
import Derived.Laws.IdiomStrings
import Derived.Test.YtaakaajcpjiccaaDoorNa30
set_option linter.unusedVariables false
set_option linter.unusedSimpArgs false
namespace Go.Proofs.YtaakaajcpjiccaaDoor
open Go.RowKit
open Go.Proofs

/-- The first k bytes, read from behind. -/
def behind (s : ByteArray) (k : Nat) : List UInt8 := (s.toList.take k).reverse
theorem behind_succ (s : ByteArray) (k : Nat) (h : k < s.size) : behind s (k + 1) = s[k] :: behind s k := by
  unfold behind
  rw [take_rev _ _ (by rw [size_list]; exact h), (list_at8 s).2 k h]
theorem behind_full (s : ByteArray) : behind s s.size = s.toList.reverse := by
  unfold behind
  rw [List.take_of_length_le (by rw [size_list]; exact Nat.le_refl _)]
theorem behind_len (s : ByteArray) (k : Nat) : (behind s k).length ≤ k := by
  unfold behind
  rw [List.length_reverse]
  exact List.length_take_le _ _
/-- '[]byte(s)': a new block that holds the bytes. -/
theorem bytes_of (s : ByteArray) (w : World) : ∃ cap W', (convert 9 44 (.string s)).run Tryd.prog w = .ok (.slice (some ⟨w.heap.size, 0, none⟩) s.size cap) W' ∧ (∀ j (h : j < s.size), W'.cell? ⟨w.heap.size, j, none⟩ = some (.int .u8 (s[j].toNat : Int))) ∧ Below w.heap.size w W' ∧ W'.heap.size = w.heap.size + 1 := by
  refine ⟨_, _, run_bytes_of_string w 9 44 5 s Tryd.underlying9 Tryd.underlying44 Tryd.underlying5, fun j h => ?_, ((Below.refl _ _).drew).alloc (Nat.le_refl _) _, by simp⟩
  have hb := heap_alloc_new w.drew (.cells (bytesRow s (grownCap w s.size 0 5)) 5 ((bytesRow s (grownCap w s.size 0 5)).size, (bytesRow s (grownCap w s.size 0 5)).size + 1))
  have hz : w.drew.heap.size = w.heap.size := rfl
  rw [hz] at hb
  simp only [World.cell?, hb]
  exact bytesRow_at s _ j h
theorem own_cap {w : World} {B g n cap : Nat} {xs : List Nat} (h : OwnN w B (.slice (some ⟨g, 0, none⟩) n cap) xs) : n ≤ cap := by
  rcases h.2 with ⟨h1, _⟩ | ⟨g2, cap2, cur, h1, _, _, h3, _⟩
  · simp at h1
  · simp only [Value.slice.injEq, Option.some.injEq, Addr.mk.injEq, and_true, true_and] at h1
    obtain ⟨rfl, rfl, rfl⟩ := h1
    exact h3
set_option maxRecDepth 100000 in
set_option maxHeartbeats 4000000 in
theorem distance_any (a b : ByteArray) (w : World) (ha : a.size ≤ 100000) (hb : b.size ≤ 100000) : Calls Tryd.prog 18 #[.string a, .string b] w fun e w' => e = .returned (.int .i64 (dist a.toList b.toList : Nat)) ∧ Below w.heap.size w w' := by
  have HD : Hid (dist a.toList b.toList = levR a.toList.reverse (behind b b.size)) := by show _ = _; rw [behind_full]; rfl
  go_enter Tryd.func18, Tryd.ntmps18
  go_wp2_with fail
  refine (start_any a _ ha).mono ?_
  intro e w1 h1
  obtain ⟨v1, rfl, ho1, hb1⟩ := h1
  have HO1 := Lib.hid ho1
  have HB1 := Lib.hid hb1
  clear ho1 hb1
  obtain ⟨cb, w2, hrun, hcs, hb2, hz2⟩ := bytes_of b w1
  have HCS := Lib.hid hcs
  have HO2 := Lib.hid (ownBelow HO1.out hb2)
  have HB2 := Lib.hid (HB1.out.trans (hb2.mono HB1.out.size))
  have hz3 : w.heap.size ≤ w2.heap.size := HB2.out.size
  clear hb2 hcs
  have HZ := Lib.hid hz2
  clear hz2
  go_wp2_with fail
  go_loopw [5, 7, 13] (fun v _ i wr => ∃ k : Nat, k ≤ b.size ∧ i = .int .i64 (k : Int) ∧ OwnN wr w.heap.size v (rowR a.toList (behind b k)) ∧ Below w2.heap.size w2 wr) (fun _ _ i _ => b.size - (intOf i).toNat)
  case atStart => exact ⟨0, by omega, rfl, HO2.out, Below.refl _ _⟩
  case round =>
    obtain ⟨k, hk, rfl, ho, hb⟩ := hrel
    obtain ⟨g, cap, hv, hrow⟩ := ho.row (by intro e; have := rowR_length a.toList (behind b k); rw [e] at this; simp at this)
    subst hv
    have hcap : (rowR a.toList (behind b k)).length ≤ cap := own_cap ho
    rw [rowR_length, size_list] at hcap
    have HO := Lib.hid ho
    have HROW := Lib.hid hrow
    have HB := Lib.hid hb
    have HLEN : Hid ((rowR a.toList (behind b k)).length = a.size + 1) := by show _ = _; rw [rowR_length, size_list]
    clear ho hrow hb
    rw [HLEN.out]
    by_cases hlt : k < b.size
    · have hltd : decide ((k : Int) < (b.size : Int)) = true := by simp; omega
      have hc := cell_under (HCS.out k hlt) HB.out
      have HBE := Lib.hid (behind_succ b k hlt)
      go_wp2_with fail
      refine (next_any a (behind b k) b[k] g cap wr ha (by have := behind_len b k; omega) hcap HROW.out).mono ?_
      intro e w3 h3
      obtain ⟨v3, rfl, ho3, hb3⟩ := h3
      rw [← HBE.out] at ho3
      have HO3 : Hid (OwnN w3 w.heap.size v3 (rowR a.toList (behind b (k + 1)))) := own_base ho3 (by have := HB.out.size; omega)
      have HB3 := Lib.hid (HB.out.trans (hb3.mono HB.out.size))
      clear ho3 hb3
      go_wp2_with fail
      go_roundw
      case rel => exact ⟨k + 1, by omega, by go_num, HO3.out, HB3.out⟩
      case measure => simp [intOf]; omega
    · have hltd : decide ((k : Int) < (b.size : Int)) = false := by simp; omega
      obtain rfl : k = b.size := by omega
      obtain ⟨d, hd⟩ : ∃ d, levR a.toList.reverse (behind b b.size) = d := ⟨_, rfl⟩
      have hlast := (HO.out.at a.size d (by rw [← size_list a, rowR_last, hd])).1
      have HDD := Lib.hid hd
      clear hd
      go_wp2_with fail
      go_ret
      exact ⟨by rw [HD.out, HDD.out]; rfl, HB2.out.trans (HB.out.mono HB2.out.size)⟩
end Go.Proofs.YtaakaajcpjiccaaDoor
namespace Go.Proofs.YtaakaajcpjiccaaDoor
open Go.RowKit
open Go.Proofs

/-- The first m numbers of a table, then noughts. -/
def fillTo (f : Nat → Nat) (n m : Nat) : List Nat := (List.range n).map fun p => if p < m then f p else 0
theorem fillTo_length (f : Nat → Nat) (n m : Nat) : (fillTo f n m).length = n := by simp [fillTo]
theorem fillTo_at (f : Nat → Nat) (n m i : Nat) (h : i < n) : (fillTo f n m)[i]? = some (if i < m then f i else 0) := by
  unfold fillTo
  rw [List.getElem?_map, List.getElem?_range h]
  rfl
theorem fillTo_zero (f : Nat → Nat) (n : Nat) : fillTo f n 0 = List.replicate n 0 := by
  apply List.ext_getElem?
  intro i
  by_cases h : i < n
  · rw [fillTo_at f n 0 i h, List.getElem?_replicate, if_pos h]; simp
  · rw [List.getElem?_eq_none (by rw [fillTo_length]; omega), List.getElem?_eq_none (by simp; omega)]
theorem fillTo_succ (f : Nat → Nat) (n m : Nat) : (fillTo f n m).set m (f m) = fillTo f n (m + 1) := by
  apply List.ext_getElem?
  intro i
  rw [List.getElem?_set]
  by_cases h : i < n
  · by_cases e : m = i
    · subst e
      rw [if_pos rfl, if_pos (by rw [fillTo_length]; exact h), fillTo_at _ _ _ _ h, if_pos (by omega)]
    · rw [if_neg e, fillTo_at _ _ _ _ h, fillTo_at _ _ _ _ h]
      by_cases h2 : i < m
      · rw [if_pos h2, if_pos (by omega)]
      · rw [if_neg h2, if_neg (by omega)]
  · rw [List.getElem?_eq_none (by rw [fillTo_length]; omega : (fillTo f n (m + 1)).length ≤ i)]
    split
    · rw [if_neg (by rw [fillTo_length]; omega)]
    · rw [List.getElem?_eq_none (by rw [fillTo_length]; omega)]
/-- The table's number at a place: rows of W. -/
def tabF (a b : ByteArray) (p : Nat) : Nat := levR (behind a (p / (b.size + 1))) (behind b (p % (b.size + 1)))
theorem tabF_at (a b : ByteArray) (i k : Nat) (hk : k ≤ b.size) : tabF a b (i * (b.size + 1) + k) = levR (behind a i) (behind b k) := by
  unfold tabF
  have h1 : (i * (b.size + 1) + k) / (b.size + 1) = i := by
    rw [Nat.add_comm, Nat.add_mul_div_right _ _ (by omega), Nat.div_eq_of_lt (by omega), Nat.zero_add]
  have h2 : (i * (b.size + 1) + k) % (b.size + 1) = k := by
    rw [Nat.add_comm, Nat.add_mul_mod_self_right, Nat.mod_eq_of_lt (by omega)]
  rw [h1, h2]
theorem tabF_top (a b : ByteArray) (k : Nat) (hk : k ≤ b.size) : levR (behind a 0) (behind b k) = k := by
  unfold behind
  rw [List.take_zero, List.reverse_nil, levR_nil, List.length_reverse, List.length_take, size_list]
  omega
theorem tabF_left (a b : ByteArray) (i : Nat) (hi : i ≤ a.size) : levR (behind a i) (behind b 0) = i := by
  unfold behind
  rw [List.take_zero, List.reverse_nil, levR_nil2, List.length_reverse, List.length_take, size_list]
  omega
theorem tabF_in (a b : ByteArray) (i k : Nat) (hi : i < a.size) (hk : k < b.size) : levR (behind a (i + 1)) (behind b (k + 1)) =
    min (chN (levR (behind a i) (behind b k)) a[i] b[k]) (min (levR (behind a i) (behind b (k + 1)) + 1) (levR (behind a (i + 1)) (behind b k) + 1)) := by
  rw [behind_succ a i hi, behind_succ b k hk, levR_cons, chN]
  split <;> omega
theorem lev_bd (a b : ByteArray) (i k : Nat) : levR (behind a i) (behind b k) ≤ i + k := by
  have : ∀ (xs bs : List UInt8), levR xs bs ≤ xs.length + bs.length := by
    intro xs
    induction xs with
    | nil => intro bs; rw [levR_nil]; simp
    | cons a xs ih => intro bs; have := levR_drop a xs bs; have := ih bs; simp; omega
  have h := this (behind a i) (behind b k)
  have h2 := behind_len a i
  have h3 := behind_len b k
  omega
set_option maxRecDepth 100000 in
set_option maxHeartbeats 4000000 in
theorem refDistance_any (a b : ByteArray) (w : World) (ha : a.size ≤ 1000) (hb : b.size ≤ 1000) : Calls Tryd.prog 27 #[.string a, .string b] w fun e w' => e = .returned (.int .i64 (dist a.toList b.toList : Nat)) ∧ Below w.heap.size w w' := by
  have HD : Hid (dist a.toList b.toList = levR (behind a a.size) (behind b b.size)) := by show _ = _; rw [behind_full, behind_full]; rfl
  have hmul : ∀ i, i ≤ a.size → (i + 1) * (b.size + 1) ≤ (a.size + 1) * (b.size + 1) := fun i hi => Nat.mul_le_mul_right _ (by omega)
  have hall : (a.size + 1) * (b.size + 1) ≤ 1001 * 1001 := Nat.mul_le_mul (by omega) (by omega)
  obtain ⟨N, hN⟩ : ∃ N, (a.size + 1) * (b.size + 1) = N := ⟨_, rfl⟩
  rw [hN] at hmul hall
  have hNi : ((a.size : Int) + 1) * ((b.size : Int) + 1) = (N : Int) := by rw [← hN]; simp
  have hmk := make_ints N (by omega)
  have HM := Lib.hid hmul
  have HN := Lib.hid hN
  clear hmul hN
  go_enter Tryd.func27, Tryd.ntmps27
  go_wp2_with fail
  clear hNi hmk
  go_loopw [7, 8, 9] (fun i _ _ wr => ∃ p : Nat, p ≤ a.size + 1 ∧ i = .int .i64 (p : Int) ∧ OwnN wr w.heap.size (.slice (some ⟨w.heap.size, 0, none⟩) N N) (fillTo (tabF a b) N (p * (b.size + 1))) ∧ Below w.heap.size w wr) (fun i _ _ _ => a.size + 1 - (intOf i).toNat)
  case atStart => exact ⟨0, by omega, rfl, by rw [Nat.zero_mul, fillTo_zero]; exact made_nats w _ (by omega), (Below.refl _ _).alloc (Nat.le_refl _) _⟩
  case round =>
    obtain ⟨p, hp, rfl, ho, hbw⟩ := hrel
    have HO := Lib.hid ho
    have HB := Lib.hid hbw
    clear ho hbw
    by_cases hlt : p ≤ a.size
    · have hltd : decide ((p : Int) ≤ (a.size : Int)) = true := by simp; omega
      have hrow := HM.out p hlt
      obtain ⟨P, hP⟩ : ∃ P, p * (b.size + 1) = P := ⟨_, rfl⟩
      have hPi : (p : Int) * ((b.size : Int) + 1) = (P : Int) := by rw [← hP]; simp
      rw [Nat.add_mul, Nat.one_mul, hP] at hrow
      have HP := Lib.hid hP
      go_wp2_with fail
      go_loopw [8, 9] (fun k _ wx => ∃ q : Nat, q ≤ b.size + 1 ∧ k = .int .i64 (q : Int) ∧ OwnN wx w.heap.size (.slice (some ⟨w.heap.size, 0, none⟩) N N) (fillTo (tabF a b) N (P + q)) ∧ Below w.heap.size w wx) (fun k _ _ => b.size + 1 - (intOf k).toNat)
      case atStart => exact ⟨0, by omega, rfl, by rw [Nat.add_zero, ← HP.out]; exact HO.out, HB.out⟩
      case round =>
        obtain ⟨q, hq, rfl, ho2, hbw2⟩ := hrel
        have HO2 := Lib.hid ho2
        have HB2 := Lib.hid hbw2
        clear ho2 hbw2
        by_cases hlq : q ≤ b.size
        · have hlqd : decide ((q : Int) ≤ (b.size : Int)) = true := by simp; omega
          have hPN : P + q < N := by omega
          obtain ⟨c0, f0, _, hgl⟩ := HO2.out.at (P + q) 0 (by rw [fillTo_at _ _ _ _ hPN, if_neg (by omega)])
          have HF : Hid (∀ u, tabF a b (P + q) = u → OwnN (wr.setCell ⟨w.heap.size, P + q, none⟩ (.int .i64 (u : Int))) w.heap.size (.slice (some ⟨w.heap.size, 0, none⟩) N N) (fillTo (tabF a b) N (P + (q + 1)))) := by
            show ∀ u, _ → _
            intro u hu
            rw [← Nat.add_assoc, ← fillTo_succ, hu]
            exact HO2.out.stored (P + q) u
          have HFV : Hid (tabF a b (P + q) = levR (behind a p) (behind b q)) := by show _ = _; rw [← HP.out, tabF_at _ _ _ _ hlq]
          by_cases hp0 : p = 0
          · subst hp0
            obtain rfl : P = 0 := by rw [← HP.out, Nat.zero_mul]
            have HV := Lib.hid (HF.out q (by rw [HFV.out, tabF_top _ _ _ hlq]))
            rw [Nat.zero_add] at HV c0 f0 hPN
            clear hPi
            go_wp2_with fail
            go_roundw
            case rel => exact ⟨q + 1, by omega, by go_num, HV.out, HB2.out.setCell (p := ⟨w.heap.size, q, none⟩) (Nat.le_refl _) _⟩
            case measure => simp [intOf]; omega
          · have hp0d : ((p : Int) == 0) = false := by simp; omega
            by_cases hq0 : q = 0
            · subst hq0
              have HV := Lib.hid (HF.out p (by rw [HFV.out, tabF_left _ _ _ hlt]))
              rw [Nat.add_zero] at HV c0 f0 hPN
              go_wp2_with fail
              go_roundw
              case rel => exact ⟨0 + 1, by omega, by go_num, HV.out, HB2.out.setCell (p := ⟨w.heap.size, P, none⟩) (Nat.le_refl _) _⟩
              case measure => simp [intOf]
            · obtain ⟨p', rfl⟩ : ∃ p', p = p' + 1 := ⟨p - 1, by omega⟩
              obtain ⟨q', rfl⟩ : ∃ q', q = q' + 1 := ⟨q - 1, by omega⟩
              obtain ⟨P', hP'⟩ : ∃ P', p' * (b.size + 1) = P' := ⟨_, rfl⟩
              have hPP : P = P' + (b.size + 1) := by rw [← HP.out, ← hP', Nat.add_mul, Nat.one_mul]
              have hPi' : (p' : Int) * ((b.size : Int) + 1) = (P' : Int) := by rw [← hP']; simp
              have hPi2 : ((p' : Int) + 1) * ((b.size : Int) + 1) = (P : Int) := by rw [← HP.out]; simp
              have b1 := lev_bd a b p' q'
              have b2 := lev_bd a b p' (q' + 1)
              have b3 := lev_bd a b (p' + 1) q'
              have ip : p' < a.size := by omega
              have iq : q' < b.size := by omega
              have HIN := Lib.hid (tabF_in a b p' q' ip iq)
              obtain ⟨x, hx⟩ : ∃ x, levR (behind a p') (behind b q') = x := ⟨_, rfl⟩
              obtain ⟨y, hy⟩ : ∃ x, levR (behind a p') (behind b (q' + 1)) = x := ⟨_, rfl⟩
              obtain ⟨z, hz⟩ : ∃ x, levR (behind a (p' + 1)) (behind b q') = x := ⟨_, rfl⟩
              rw [hx, hy, hz] at HIN
              rw [hx] at b1
              rw [hy] at b2
              rw [hz] at b3
              obtain ⟨cx, _, _, _⟩ := HO2.out.at (P' + q') x (by rw [fillTo_at _ _ _ _ (by omega), if_pos (by omega), ← hP', tabF_at _ _ _ _ (by omega), hx])
              obtain ⟨cy, _, _, _⟩ := HO2.out.at (P' + (q' + 1)) y (by rw [fillTo_at _ _ _ _ (by omega), if_pos (by omega), ← hP', tabF_at _ _ _ _ (by omega), hy])
              obtain ⟨cz, _, _, _⟩ := HO2.out.at (P + q') z (by rw [fillTo_at _ _ _ _ (by omega), if_pos (by omega), ← HP.out, tabF_at _ _ _ _ (by omega), hz])
              have HV := Lib.hid (HF.out _ (by rw [HFV.out, HIN.out]))
              have HPP := Lib.hid hPP
              have hP1 : (P' : Int) + ((b.size : Int) + 1) ≤ (P : Int) := by omega
              have hP2 : (P : Int) + ((b.size : Int) + 1) ≤ (N : Int) := by omega
              have hN2 : (N : Int) ≤ 1002001 := by omega
              clear hx hy hz hPi hPP hP'
              by_cases he : a[p'] = b[q']
              · have heb : (((a[p'].toNat : Nat) : Int) != ((b[q'].toNat : Nat) : Int)) = false := by rw [he]; simp
                have HCH : Hid (chN x a[p'] b[q'] = x) := by show _ = _; rw [chN, if_pos he]
                clear he
                go_wp2_with fail
                have v1 : IntKind.i64.wrap ((p' : Int) + 1 - 1) = (p' : Int) := by rw [IntWalk.i64_in _ (by omega)]; omega
                have v2 : IntKind.i64.wrap ((q' : Int) + 1 - 1) = (q' : Int) := by rw [IntWalk.i64_in _ (by omega)]; omega
                have v3 : (p' : Int) < (a.size : Int) := by omega
                have v4 : (q' : Int) < (b.size : Int) := by omega
                have v5 : 0 ≤ (p' : Int) := by omega
                have v6 : 0 ≤ (q' : Int) := by omega
                go_quiet (fail)
                clear v2
                go_wp2_with fail
                simp only [Int.natCast_add, Int.cast_ofNat_Int]
                obtain ⟨M, hM⟩ : ∃ M, P + (q' + 1) = M := ⟨_, rfl⟩
                obtain ⟨M1, hM1⟩ : ∃ M1, P' + (q' + 1) = M1 := ⟨_, rfl⟩
                obtain ⟨M2, hM2⟩ : ∃ M2, P + q' = M2 := ⟨_, rfl⟩
                rw [hM] at c0 f0 HV
                rw [hM1] at cy
                rw [hM2] at cz
                have e1 : IntKind.i64.wrap (p' : Int) = (p' : Int) := IntWalk.i64_in _ (by omega)
                have e3 : IntKind.i64.wrap (((p' : Int) + 1) * ((b.size : Int) + 1)) = (P : Int) := by rw [hPi2]; exact IntWalk.i64_in _ (by omega)
                have e4 : IntKind.i64.wrap ((p' : Int) * ((b.size : Int) + 1)) = (P' : Int) := by rw [hPi']; exact IntWalk.i64_in _ (by omega)
                have e5 : IntKind.i64.wrap ((P : Int) + ((q' : Int) + 1)) = (M : Int) := by rw [IntWalk.i64_in _ (by omega), ← hM]; simp
                have e6 : IntKind.i64.wrap ((P' : Int) + ((q' : Int) + 1)) = (M1 : Int) := by rw [IntWalk.i64_in _ (by omega), ← hM1]; simp
                have e7 : IntKind.i64.wrap ((M : Int) - 1) = (M2 : Int) := by rw [IntWalk.i64_in _ (by omega), ← hM2]; omega
                have e8 : IntKind.i64.wrap ((y : Int) + 1) = (y : Int) + 1 := IntWalk.i64_in _ (by omega)
                have e9 : IntKind.i64.wrap ((z : Int) + 1) = (z : Int) + 1 := IntWalk.i64_in _ (by omega)
                have m0 : (M : Int) < (N : Int) := by omega
                have m1 : (M1 : Int) < (N : Int) := by omega
                have m2 : (M2 : Int) < (N : Int) := by omega
                have m3 : 0 ≤ (M : Int) := by omega
                have m4 : 0 ≤ (M1 : Int) := by omega
                have m5 : 0 ≤ (M2 : Int) := by omega
                have HMM := Lib.hid hM
                obtain ⟨W, hW⟩ : ∃ W, wr.drewN nq = W := ⟨_, rfl⟩
                have d0 : W.cell? ⟨w.heap.size, M, none⟩ = some (.int .i64 ((0 : Nat) : Int)) := by rw [← hW]; simpa using c0
                have d1 : W.frozen? ⟨w.heap.size, M, none⟩ = false := by rw [← hW]; simpa using f0
                have d2 : W.cell? ⟨w.heap.size, M1, none⟩ = some (.int .i64 (y : Int)) := by rw [← hW]; simpa using cy
                have d3 : W.cell? ⟨w.heap.size, M2, none⟩ = some (.int .i64 (z : Int)) := by rw [← hW]; simpa using cz
                have HBW : Hid (Below w.heap.size w W) := by rw [← hW]; exact below_drewN HB2.out _
                have HVW : Hid (∀ u, tabF a b (P + (q' + 1)) = u → OwnN (W.setCell ⟨w.heap.size, M, none⟩ (.int .i64 (u : Int))) w.heap.size (.slice (some ⟨w.heap.size, 0, none⟩) N N) (fillTo (tabF a b) N (P + (q' + 1 + 1)))) := by
                  show ∀ u, _ → _
                  intro u hu
                  have ho : OwnN W w.heap.size (.slice (some ⟨w.heap.size, 0, none⟩) N N) (fillTo (tabF a b) N (P + (q' + 1))) := by rw [← hW]; exact ownBelow HO2.out (below_drewN (Below.refl _ _) _)
                  rw [← Nat.add_assoc P (q' + 1) 1, ← fillTo_succ, hu, hM]
                  rw [hM] at ho
                  exact ho.stored M u
                rw [hW]
                clear hPi2 hPi' hM hM1 hM2 c0 f0 cx cy cz HV HF hW
                go_still_tail 30, (by kernel_rfl)
                go_wp2_with fail
                all_goals
                  clear e1 e3 e4 e5 e6 e7 e8 e9
                  try clear e10
                  go_roundw
                  case rel =>
                    refine ⟨q' + 1 + 1, by omega, by go_num, ownBelow ?_ ((Below.refl _ _).drew), (HBW.out.setCell (p := ⟨w.heap.size, M, none⟩) (Nat.le_refl _) _).drew⟩
                    first
                      | exact HVW.out (x) (by rw [HFV.out, HIN.out, HCH.out]; omega)
                      | exact HVW.out (z + 1) (by rw [HFV.out, HIN.out, HCH.out]; omega)
                      | exact HVW.out (y + 1) (by rw [HFV.out, HIN.out, HCH.out]; omega)
                  case measure => simp [intOf]; omega
              · have heb : (((a[p'].toNat : Nat) : Int) != ((b[q'].toNat : Nat) : Int)) = true := by
                  have : a[p'].toNat ≠ b[q'].toNat := fun e => he (UInt8.toNat_inj.1 e)
                  simp; omega
                have HCH : Hid (chN x a[p'] b[q'] = x + 1) := by show _ = _; rw [chN, if_neg he]
                clear he
                go_wp2_with fail
                have v1 : IntKind.i64.wrap ((p' : Int) + 1 - 1) = (p' : Int) := by rw [IntWalk.i64_in _ (by omega)]; omega
                have v2 : IntKind.i64.wrap ((q' : Int) + 1 - 1) = (q' : Int) := by rw [IntWalk.i64_in _ (by omega)]; omega
                have v3 : (p' : Int) < (a.size : Int) := by omega
                have v4 : (q' : Int) < (b.size : Int) := by omega
                have v5 : 0 ≤ (p' : Int) := by omega
                have v6 : 0 ≤ (q' : Int) := by omega
                go_quiet (fail)
                clear v2
                go_wp2_with fail
                simp only [Int.natCast_add, Int.cast_ofNat_Int]
                obtain ⟨M, hM⟩ : ∃ M, P + (q' + 1) = M := ⟨_, rfl⟩
                obtain ⟨M1, hM1⟩ : ∃ M1, P' + (q' + 1) = M1 := ⟨_, rfl⟩
                obtain ⟨M2, hM2⟩ : ∃ M2, P + q' = M2 := ⟨_, rfl⟩
                rw [hM] at c0 f0 HV
                rw [hM1] at cy
                rw [hM2] at cz
                have e1 : IntKind.i64.wrap (p' : Int) = (p' : Int) := IntWalk.i64_in _ (by omega)
                have e3 : IntKind.i64.wrap (((p' : Int) + 1) * ((b.size : Int) + 1)) = (P : Int) := by rw [hPi2]; exact IntWalk.i64_in _ (by omega)
                have e4 : IntKind.i64.wrap ((p' : Int) * ((b.size : Int) + 1)) = (P' : Int) := by rw [hPi']; exact IntWalk.i64_in _ (by omega)
                have e5 : IntKind.i64.wrap ((P : Int) + ((q' : Int) + 1)) = (M : Int) := by rw [IntWalk.i64_in _ (by omega), ← hM]; simp
                have e6 : IntKind.i64.wrap ((P' : Int) + ((q' : Int) + 1)) = (M1 : Int) := by rw [IntWalk.i64_in _ (by omega), ← hM1]; simp
                have e7 : IntKind.i64.wrap ((M : Int) - 1) = (M2 : Int) := by rw [IntWalk.i64_in _ (by omega), ← hM2]; omega
                have e10 : IntKind.i64.wrap ((x : Int) + 1) = (x : Int) + 1 := IntWalk.i64_in _ (by omega)
                have e8 : IntKind.i64.wrap ((y : Int) + 1) = (y : Int) + 1 := IntWalk.i64_in _ (by omega)
                have e9 : IntKind.i64.wrap ((z : Int) + 1) = (z : Int) + 1 := IntWalk.i64_in _ (by omega)
                have m0 : (M : Int) < (N : Int) := by omega
                have m1 : (M1 : Int) < (N : Int) := by omega
                have m2 : (M2 : Int) < (N : Int) := by omega
                have m3 : 0 ≤ (M : Int) := by omega
                have m4 : 0 ≤ (M1 : Int) := by omega
                have m5 : 0 ≤ (M2 : Int) := by omega
                have HMM := Lib.hid hM
                obtain ⟨W, hW⟩ : ∃ W, wr.drewN nq = W := ⟨_, rfl⟩
                have d0 : W.cell? ⟨w.heap.size, M, none⟩ = some (.int .i64 ((0 : Nat) : Int)) := by rw [← hW]; simpa using c0
                have d1 : W.frozen? ⟨w.heap.size, M, none⟩ = false := by rw [← hW]; simpa using f0
                have d2 : W.cell? ⟨w.heap.size, M1, none⟩ = some (.int .i64 (y : Int)) := by rw [← hW]; simpa using cy
                have d3 : W.cell? ⟨w.heap.size, M2, none⟩ = some (.int .i64 (z : Int)) := by rw [← hW]; simpa using cz
                have HBW : Hid (Below w.heap.size w W) := by rw [← hW]; exact below_drewN HB2.out _
                have HVW : Hid (∀ u, tabF a b (P + (q' + 1)) = u → OwnN (W.setCell ⟨w.heap.size, M, none⟩ (.int .i64 (u : Int))) w.heap.size (.slice (some ⟨w.heap.size, 0, none⟩) N N) (fillTo (tabF a b) N (P + (q' + 1 + 1)))) := by
                  show ∀ u, _ → _
                  intro u hu
                  have ho : OwnN W w.heap.size (.slice (some ⟨w.heap.size, 0, none⟩) N N) (fillTo (tabF a b) N (P + (q' + 1))) := by rw [← hW]; exact ownBelow HO2.out (below_drewN (Below.refl _ _) _)
                  rw [← Nat.add_assoc P (q' + 1) 1, ← fillTo_succ, hu, hM]
                  rw [hM] at ho
                  exact ho.stored M u
                rw [hW]
                clear hPi2 hPi' hM hM1 hM2 c0 f0 cx cy cz HV HF hW
                go_still_tail 30, (by kernel_rfl)
                go_wp2_with fail
                all_goals
                  clear e1 e3 e4 e5 e6 e7 e8 e9
                  try clear e10
                  go_roundw
                  case rel =>
                    refine ⟨q' + 1 + 1, by omega, by go_num, ownBelow ?_ ((Below.refl _ _).drew), (HBW.out.setCell (p := ⟨w.heap.size, M, none⟩) (Nat.le_refl _) _).drew⟩
                    first
                      | exact HVW.out (x + 1) (by rw [HFV.out, HIN.out, HCH.out]; omega)
                      | exact HVW.out (z + 1) (by rw [HFV.out, HIN.out, HCH.out]; omega)
                      | exact HVW.out (y + 1) (by rw [HFV.out, HIN.out, HCH.out]; omega)
                  case measure => simp [intOf]; omega
        · obtain rfl : q = b.size + 1 := by omega
          have hlqd : decide (((b.size : Int) + 1) ≤ (b.size : Int)) = false := by simp; omega
          go_wp2_with fail
          go_roundw
          case rel => exact ⟨p + 1, by omega, by go_num, by rw [Nat.add_mul, Nat.one_mul, HP.out]; exact HO2.out, HB2.out⟩
          case measure => simp [intOf]; omega
    · obtain rfl : p = a.size + 1 := by omega
      have hltd : decide (((a.size : Int) + 1) ≤ (a.size : Int)) = false := by simp; omega
      obtain ⟨L, hL⟩ : ∃ L, a.size * (b.size + 1) = L := ⟨_, rfl⟩
      have hLi : (a.size : Int) * ((b.size : Int) + 1) = (L : Int) := by rw [← hL]; simp
      have hLN : L + b.size < N := by rw [← HN.out, Nat.add_mul, Nat.one_mul, hL]; omega
      obtain ⟨d, hd⟩ : ∃ d, levR (behind a a.size) (behind b b.size) = d := ⟨_, rfl⟩
      obtain ⟨cd, _, _, _⟩ := HO.out.at (L + b.size) d (by rw [fillTo_at _ _ _ _ hLN, if_pos (by rw [Nat.add_mul, Nat.one_mul, hL]; omega), ← hL, tabF_at _ _ _ _ (Nat.le_refl _), hd])
      have HDD := Lib.hid hd
      clear hd hL
      go_wp2_with fail
      go_ret
      exact ⟨by rw [HD.out, HDD.out]; rfl, HB.out⟩
end Go.Proofs.YtaakaajcpjiccaaDoor
