/-
  The walk of the law CodesFolded.
-/
import Derived.Test.YtiakjbocnfkmnaaDoorL6
set_option linter.unusedVariables false
set_option linter.unusedSimpArgs false
namespace Go.Proofs.YtiakjbocnfkmnaaDoor
open Go.RowKit
open Go.Proofs

theorem code_len (k i : Int) (s : List UInt8) (h : codeOf k i = s) : s.length ≤ 8 := by
  subst h
  unfold codeOf
  split
  · rename_i h
    have : ∀ i < 48, ∀ n < 5, (codeAt i n).length ≤ 8 := by decide +kernel
    exact this _ (by omega) _ (by omega)
  · simp
theorem pre_len (k i : Int) (s : List UInt8) (h : preOf k i = s) : s.length ≤ 8 := by
  subst h
  unfold preOf
  split
  · rename_i h
    have : ∀ i < 20, ∀ n < 5, (preCodeAt i n).length ≤ 8 := by decide +kernel
    exact this _ (by omega) _ (by omega)
  · simp
theorem code_big (k i : Int) (hk : k = 2 ∨ k = 4) : ∀ c ∈ codeOf k i, ¬ (97 ≤ c ∧ c ≤ 122) := by
  unfold codeOf
  split
  · rename_i h
    have : ((List.range 48).all fun i => [1, 3].all fun n => (codeAt i n).all fun c => !(decide (97 ≤ c) && decide (c ≤ 122))) = true := by decide +kernel
    intro c hc
    have h1 := List.all_eq_true.1 (List.all_eq_true.1 (List.all_eq_true.1 this i.toNat (by simp; omega)) (k.toNat - 1) (by rcases hk with rfl | rfl <;> simp)) c hc
    simp at h1
    rintro ⟨h2, h3⟩
    rcases h1 with h1 | h1
    · exact absurd h2 (UInt8.not_le.2 h1)
    · exact absurd h3 (UInt8.not_le.2 h1)
  · simp
theorem pre_big (k i : Int) (hk : k = 2 ∨ k = 4) : ∀ c ∈ preOf k i, ¬ (97 ≤ c ∧ c ≤ 122) := by
  unfold preOf
  split
  · rename_i h
    have : ((List.range 20).all fun i => [1, 3].all fun n => (preCodeAt i n).all fun c => !(decide (97 ≤ c) && decide (c ≤ 122))) = true := by decide +kernel
    intro c hc
    have h1 := List.all_eq_true.1 (List.all_eq_true.1 (List.all_eq_true.1 this i.toNat (by simp; omega)) (k.toNat - 1) (by rcases hk with rfl | rfl <;> simp)) c hc
    simp at h1
    rintro ⟨h2, h3⟩
    rcases h1 with h1 | h1
    · exact absurd h2 (UInt8.not_le.2 h1)
    · exact absurd h3 (UInt8.not_le.2 h1)
  · simp
set_option maxHeartbeats 400000 in
theorem folded_any (n at_ : Int) (w : World) (hL : Laid w) : Calls Tryd.prog 5 #[.int .i64 n, .int .i64 at_] w fun e w' => e = .returned (.bool true) ∧ Below w.heap.size w w' := by
  have HL := Lib.hid hL
  clear hL
  have hl1 := code_len (1 + n % 5) (at_ % 48) _ rfl
  have hl2 := pre_len (1 + n % 5) (at_ % 20) _ rfl
  go_enter Tryd.func5, Tryd.ntmps5
  go_wp2_with fail
  refine (awake_any _ HL.out).mono ?_
  rintro e w1 ⟨rfl, hb1⟩
  go_wp2_with fail
  refine (rest_any _ _ _ (by omega) (by omega)).mono ?_
  rintro e w2 ⟨rfl, rfl⟩
  go_wp2_with fail
  refine (rest_any _ _ _ (by omega) (by omega)).mono ?_
  rintro e w2 ⟨rfl, rfl⟩
  go_wp2_with fail
  refine (code_any _ _ _ (HL.out.below hb1)).mono ?_
  rintro e w2 ⟨rfl, hb2⟩
  go_wp2_with fail
  refine (rest_any _ _ _ (by omega) (by omega)).mono ?_
  rintro e w3 ⟨rfl, rfl⟩
  go_wp2_with fail
  refine (preCode_any _ _ _ ((HL.out.below hb1).below hb2)).mono ?_
  rintro e w3 ⟨rfl, hb3⟩
  go_wp2_with fail
  have hbig : ∀ (j : Nat) (h : j < (⟨(codeOf (1 + n % 5) (at_ % 48)).toArray⟩ ++ ⟨(preOf (1 + n % 5) (at_ % 20)).toArray⟩ : ByteArray).size), 1 + n % 5 = 2 ∨ 1 + n % 5 = 4 → ¬ (97 ≤ ((⟨(codeOf (1 + n % 5) (at_ % 48)).toArray⟩ ++ ⟨(preOf (1 + n % 5) (at_ % 20)).toArray⟩ : ByteArray)[j].toNat : Int) ∧ ((⟨(codeOf (1 + n % 5) (at_ % 48)).toArray⟩ ++ ⟨(preOf (1 + n % 5) (at_ % 20)).toArray⟩ : ByteArray)[j].toNat : Int) ≤ 122) := by
    intro j hj h24
    have hm : (⟨(codeOf (1 + n % 5) (at_ % 48)).toArray⟩ ++ ⟨(preOf (1 + n % 5) (at_ % 20)).toArray⟩ : ByteArray)[j] ∈ codeOf (1 + n % 5) (at_ % 48) ++ preOf (1 + n % 5) (at_ % 20) := by
      have e : (⟨(codeOf (1 + n % 5) (at_ % 48)).toArray⟩ ++ ⟨(preOf (1 + n % 5) (at_ % 20)).toArray⟩ : ByteArray).data.toList = codeOf (1 + n % 5) (at_ % 48) ++ preOf (1 + n % 5) (at_ % 20) := by
        rw [ByteArray.data_append]; simp
      rw [← e]
      exact Array.mem_toList_iff.2 (Array.getElem_mem _)
    have hc : ∀ c ∈ codeOf (1 + n % 5) (at_ % 48) ++ preOf (1 + n % 5) (at_ % 20), ¬ (97 ≤ c ∧ c ≤ 122) := by
      intro c hc
      rcases List.mem_append.1 hc with h | h
      · exact code_big _ _ h24 c h
      · exact pre_big _ _ h24 c h
    have := hc _ hm
    rw [UInt8.le_iff_toNat_le, UInt8.le_iff_toNat_le] at this
    simp at this ⊢
    omega
  have hsz : (⟨(codeOf (1 + n % 5) (at_ % 48)).toArray⟩ ++ ⟨(preOf (1 + n % 5) (at_ % 20)).toArray⟩ : ByteArray).size ≤ 16 := by
    rw [ByteArray.size_append]
    simp only [ByteArray.size, List.size_toArray]
    omega
  have hk1 : 1 ≤ 1 + n % 5 := by omega
  have hk2 : 1 + n % 5 ≤ 5 := by omega
  have HB := Lib.hid ((hb1.trans (hb2.mono hb1.size)).trans (hb3.mono (Nat.le_trans hb1.size hb2.size)))
  clear hb1 hb2 hb3 hl1 hl2
  generalize (⟨(codeOf (1 + n % 5) (at_ % 48)).toArray⟩ ++ ⟨(preOf (1 + n % 5) (at_ % 20)).toArray⟩ : ByteArray) = S at *
  generalize (⟨(codeOf (1 + n % 5) (at_ % 48)).toArray⟩ : ByteArray) = S1 at *
  generalize (⟨(preOf (1 + n % 5) (at_ % 20)).toArray⟩ : ByteArray) = S2 at *
  generalize 1 + n % 5 = k at *
  have HG := Lib.hid hbig
  clear hbig
  go_loop [8] (fun i => ∃ j : Nat, j ≤ S.size ∧ i = .int .i64 j) (fun i => S.size - (intOf i).toNat)
  case atStart => exact ⟨0, by omega, rfl⟩
  case round =>
    obtain ⟨j, hj, rfl⟩ := hrel
    by_cases hlt : j < S.size
    · have hg := HG.out j hlt
      have hlt2 : (j : Int) < (S.size : Int) := by omega
      by_cases h24 : k = 2 ∨ k = 4
      · have hg := hg h24
        have hdec : (decide (97 ≤ (S[j].toNat : Int)) = true ∧ decide ((S[j].toNat : Int) ≤ 122) = false) ∨ decide (97 ≤ (S[j].toNat : Int)) = false := by
          by_cases h97 : 97 ≤ (S[j].toNat : Int)
          · exact .inl ⟨by simpa using h97, by simp; omega⟩
          · exact .inr (by simpa using h97)
        clear hg
        rcases h24 with rfl | rfl
        all_goals
          rcases hdec with ⟨d1, d2⟩ | d1
          all_goals
            go_wp2
            go_round
            case rel => exact ⟨j + 1, by omega, by go_num⟩
            case measure => simp [intOf]; omega
      · have e2 : (k == 2) = false := by simp; omega
        have e4 : (k == 4) = false := by simp; omega
        clear hg
        go_wp2
        go_round
        case rel => exact ⟨j + 1, by omega, by go_num⟩
        case measure => simp [intOf]; omega
    · obtain rfl : j = S.size := by omega
      have hd : decide ((S.size : Int) ≤ 16) = true := by simp; omega
      go_wp2
      go_ret
      exact ⟨rfl, HB.out⟩
end Go.Proofs.YtiakjbocnfkmnaaDoor
