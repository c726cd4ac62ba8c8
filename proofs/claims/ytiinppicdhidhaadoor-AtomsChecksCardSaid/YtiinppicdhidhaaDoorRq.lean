/-
  The reference's codes: are the codes of a row right, behind those ahead?
-/
import Derived.Test.YtiinppicdhidhaaDoorRv
import Derived.Test.YtiinppicdhidhaaDoorCk
set_option linter.unusedVariables false
set_option linter.unusedSimpArgs false
namespace Go.Proofs.YtiinppicdhidhaaDoor
open Go.RowKit
open Go.Proofs

def rowC (c : Nat → ByteArray) : List Value := [.string (c 0), .string (c 1), .string (c 2), .string (c 3), .string (c 4)]
def rowsC (cs : Nat → Nat → ByteArray) (i : Nat) : List Value := (List.range i).flatMap fun j => rowC (cs j)
theorem rowsC_succ (cs : Nat → Nat → ByteArray) (i : Nat) : rowsC cs (i + 1) = rowsC cs i ++ rowC (cs i) := by
  unfold rowsC
  rw [List.range_succ, List.flatMap_append]
  simp
theorem rowsC_length (cs : Nat → Nat → ByteArray) : ∀ i, (rowsC cs i).length = i * 5
  | 0 => rfl
  | i + 1 => by rw [rowsC_succ, List.length_append, rowsC_length cs i]; simp [rowC]; omega
theorem rowC_at (c : Nat → ByteArray) (k : Nat) (hk : k < 5) : (rowC c)[k]? = some (.string (c k)) := by
  rcases k with _ | _ | _ | _ | _ | k <;> first | rfl | omega
theorem rowsC_at (cs : Nat → Nat → ByteArray) (k : Nat) (hk : k < 5) : ∀ i j, j < i → (rowsC cs i)[j * 5 + k]? = some (.string (cs j k))
  | 0, j, h => by omega
  | i + 1, j, h => by
    rw [rowsC_succ]
    by_cases e : j = i
    · subst e
      rw [List.getElem?_append_right (by rw [rowsC_length]; omega), rowsC_length, show j * 5 + k - j * 5 = k by omega]
      exact rowC_at _ k hk
    · rw [List.getElem?_append_left (by rw [rowsC_length]; omega)]
      exact rowsC_at cs k hk i j (by omega)
theorem codesOk_no0 {cs : Nat → Nat → ByteArray} {i : Nat} (h : (cs i 0).toList.isEmpty = true) : codesOk cs i = false := by
  unfold codesOk; rw [h]; rfl
theorem codesOk_no {cs : Nat → Nat → ByteArray} {i k : Nat} (hk : k < 5) (h : (codeB ((k : Int) + 1) (cs i k) && freshK cs i k) = false) : codesOk cs i = false := by
  unfold codesOk
  have : ((List.range 5).all fun k => codeB ((k : Int) + 1) (cs i k) && freshK cs i k) = false := by
    rw [Bool.eq_false_iff]
    intro ha
    have := List.all_eq_true.1 ha k (List.mem_range.2 hk)
    rw [this] at h
    cases h
  rw [this, Bool.and_false]
theorem codesOk_yes {cs : Nat → Nat → ByteArray} {i : Nat} (h0 : (cs i 0).toList.isEmpty = false) (h : ∀ k : Nat, k < 5 → (codeB ((k : Int) + 1) (cs i k) && freshK cs i k) = true) : codesOk cs i = true := by
  unfold codesOk
  rw [h0]
  exact List.all_eq_true.2 fun k hk => h k (List.mem_range.1 hk)
theorem fresh_yes {cs : Nat → Nat → ByteArray} {i k : Nat} (h : ∀ j, j < i → ¬ cs j k = cs i k) : freshK cs i k = true := by
  unfold freshK
  rw [List.all_eq_true.2 fun j hj => by rw [decide_eq_false (h j (List.mem_range.1 hj))]; rfl, Bool.or_true]
theorem fresh_empty {cs : Nat → Nat → ByteArray} {i k : Nat} (h : (cs i k).toList.isEmpty = true) : freshK cs i k = true := by
  unfold freshK
  rw [h, Bool.true_or]
theorem fresh_no {cs : Nat → Nat → ByteArray} {i j k : Nat} (he : (cs i k).toList.isEmpty = false) (hj : j < i) (h : cs j k = cs i k) : freshK cs i k = false := by
  unfold freshK
  rw [he, Bool.false_or, Bool.eq_false_iff]
  intro ha
  have := List.all_eq_true.1 ha j (List.mem_range.2 hj)
  rw [decide_eq_true h] at this
  cases this
theorem bytes_eq {a b : ByteArray} (h : (a.toList == b.toList) = true) : a = b := by
  have h2 : a.toList = b.toList := by simpa using h
  rw [ByteArray.toList_eq, ByteArray.toList_eq] at h2
  cases a; cases b
  simp at h2
  rw [h2]
theorem bytes_ne {a b : ByteArray} (h : (a.toList == b.toList) = false) : ¬ a = b := fun e => by rw [e] at h; simp at h
/-- None of the first m rows has the code k of row i, if that is one. -/
def NoB (cs : Nat → Nat → ByteArray) (i k m : Nat) : Prop := (cs i k).toList.isEmpty = false → ∀ x, x < m → ¬ cs x k = cs i k
/-- The codes of row i, to k, are right. -/
def UpB (cs : Nat → Nat → ByteArray) (i k : Nat) : Prop := ∀ m : Nat, m < k → (codeB ((m : Int) + 1) (cs i m) && freshK cs i m) = true
set_option maxRecDepth 100000 in
set_option maxHeartbeats 4000000 in
theorem rcodes_any (cs : Nat → Nat → ByteArray) (i : Nat) (a : Option Addr) (c : Nat) (w : World) (hsz : ∀ j, (cs i j).size ≤ maxLen) (hi : i ≤ 10000) (hA : i = 0 ∨ ∃ b off, a = some ⟨b, off, none⟩ ∧ w.rangeAt b off (rowsC cs i)) :
    Calls Tryd.prog 25 #[codesV (cs i), .slice a i c] w fun e w' => e = .returned (.bool (codesOk cs i)) ∧ Below w.heap.size w w' := by
  unfold codesV
  have HSZ := Lib.hid hsz
  have HA := Lib.hid hA
  clear hsz hA
  cases h0 : (cs i 0).toList.isEmpty with
  | true =>
    have HO := Lib.hid (codesOk_no0 h0)
    go_enter Tryd.func25, Tryd.ntmps25
    go_wp2_with fail
    go_ret
    exact ⟨by rw [HO.out]; rfl, (Below.refl _ _).alloc (Nat.le_refl _) _⟩
  | false =>
    have HE0 := Lib.hid h0
    go_enter Tryd.func25, Tryd.ntmps25
    go_wp2_with fail
    go_loopw [5, 6, 7] (fun n _ _ wr => ∃ k : Nat, k ≤ 5 ∧ n = .int .i64 ((k : Int) + 1) ∧ UpB cs i k ∧ ∃ q, wr = (w.alloc (.cells #[.string (cs i 0), .string (cs i 1), .string (cs i 2), .string (cs i 3), .string (cs i 4)] 30)).drewN q) (fun n _ _ _ => 6 - (intOf n).toNat)
    case atStart => exact ⟨0, by omega, rfl, fun m hm => by omega, 0, rfl⟩
    case round =>
      obtain ⟨k, hk, rfl, hK, q, rfl⟩ := hrel
      have HK := Lib.hid hK
      clear hK
      have bel : Below w.heap.size w (w.alloc (.cells #[.string (cs i 0), .string (cs i 1), .string (cs i 2), .string (cs i 3), .string (cs i 4)] 30)) := (Below.refl _ _).alloc (Nat.le_refl _) _
      have BEL := Lib.hid bel
      clear bel
      by_cases hlt : k < 5
      · have hck : (#[Value.string (cs i 0), .string (cs i 1), .string (cs i 2), .string (cs i 3), .string (cs i 4)] : Array Value)[k]? = some (.string (cs i k)) := by
          have := rowC_at (cs i) k hlt
          rcases k with _ | _ | _ | _ | _ | k <;> first | rfl | omega
        have hcell := cellNew w #[Value.string (cs i 0), .string (cs i 1), .string (cs i 2), .string (cs i 3), .string (cs i 4)] 30 k _ hck
        obtain ⟨ob, hob⟩ : ∃ b, codeB ((k : Int) + 1) (cs i k) = b := ⟨_, rfl⟩
        have HOB := Lib.hid hob
        clear hob
        have hk5 : (k : Int) < 5 := by omega
        go_wp2_with fail
        refine (refcode_any ((k : Int) + 1) (cs i k) _ (by omega) (by omega) (HSZ.out k)).mono ?_
        rintro e w1 ⟨rfl, rfl⟩
        rw [HOB.out]
        cases ob with
        | false =>
          have HO := Lib.hid (codesOk_no (cs := cs) (i := i) hlt (by rw [HOB.out]; rfl))
          go_wp2_with fail
          go_ret
          exact ⟨by rw [HO.out]; rfl, below_drewN BEL.out _⟩
        | true =>
          have HCK := Lib.hid hck
          have HCELL := Lib.hid hcell
          clear hck hcell
          go_wp2_with fail
          go_loopw [7] (fun j wr => ∃ m : Nat, m ≤ i ∧ j = .int .i64 (m : Int) ∧ NoB cs i k m ∧ ∃ q2, wr = (w.alloc (.cells #[.string (cs i 0), .string (cs i 1), .string (cs i 2), .string (cs i 3), .string (cs i 4)] 30)).drewN q2) (fun j _ => i - (intOf j).toNat)
          case atStart => exact ⟨0, by omega, rfl, fun _ x hx => by omega, q, rfl⟩
          case round =>
            obtain ⟨m, hm, rfl, hM, q2, rfl⟩ := hrel
            have HM := Lib.hid hM
            clear hM
            have hck := HCK.out
            have hcell := HCELL.out
            by_cases hmi : m < i
            · have hmd : decide ((m : Int) < (i : Int)) = true := by simp; omega
              obtain ⟨b, off, rfl, hR⟩ : ∃ b off, a = some ⟨b, off, none⟩ ∧ w.rangeAt b off (rowsC cs i) := by
                rcases HA.out with h | h
                · omega
                · exact h
              have hrow := hR (m * 5 + k) _ (rowsC_at cs k hlt i m hmi)
              rw [← Nat.add_assoc] at hrow
              have hrow2 := cellAlloc (.cells #[.string (cs i 0), .string (cs i 1), .string (cs i 2), .string (cs i 3), .string (cs i 4)] 30) hrow
              have hbw := World.block_lt_of_cell? w _ hrow
              have hbw2 : b < w.heap.size := hbw
              clear hbw hR hrow
              cases hE : (cs i k).toList.isEmpty with
              | true =>
                go_wp2_with fail
                go_quiet (fail)
                go_wp2_with fail
                go_roundw
                case rel => exact ⟨m + 1, by omega, by go_num, (fun h => by rw [hE] at h; cases h), _, rfl⟩
                case measure => simp [intOf]; omega
              | false =>
                cases hEq : ((cs m k).toList == (cs i k).toList) with
                | true =>
                  have HO := Lib.hid (codesOk_no (cs := cs) (i := i) hlt (by rw [fresh_no hE hmi (bytes_eq hEq), Bool.and_false]))
                  go_wp2_with fail
                  go_quiet (fail)
                  go_wp2_with fail
                  go_ret
                  exact ⟨by rw [HO.out]; rfl, below_drewN (below_drewN BEL.out _) _⟩
                | false =>
                  go_wp2_with fail
                  go_quiet (fail)
                  go_wp2_with fail
                  go_roundw
                  case rel => exact ⟨m + 1, by omega, by go_num, (fun h x hx => by
                    by_cases e : x = m
                    · rw [e]; exact bytes_ne hEq
                    · exact HM.out h x (by omega)), _, rfl⟩
                  case measure => simp [intOf]; omega
            · obtain rfl : m = i := by omega
              have hmd : decide ((m : Int) < (m : Int)) = false := by simp
              have HF : Hid (freshK cs m k = true) := by
                show _ = _
                cases hE : (cs m k).toList.isEmpty with
                | true => exact fresh_empty hE
                | false => exact fresh_yes (HM.out hE)
              go_wp2_with fail
              go_roundw
              case rel => exact ⟨k + 1, by omega, by go_num, (fun x hx => by
                by_cases e : x = k
                · rw [e, HOB.out, HF.out]; rfl
                · exact HK.out x (by omega)), _, rfl⟩
              case measure => simp [intOf]; omega
      · obtain rfl : k = 5 := by omega
        have HO := Lib.hid (codesOk_yes HE0.out HK.out)
        go_wp2_with fail
        go_ret
        exact ⟨by rw [HO.out]; rfl, below_drewN BEL.out _⟩
end Go.Proofs.YtiinppicdhidhaaDoor
