/-
  codes.find: the contracts.
-/
import Derived.Test.YtiakjbocnfkmnaaDoorCo
set_option linter.unusedVariables false
set_option linter.unusedSimpArgs false
namespace Go.Proofs.YtiakjbocnfkmnaaDoor
open Go.RowKit
open Go.Proofs

def findI : Option Nat → Int
  | some i => i
  | none => -1
def findB : Option Nat → Bool
  | some _ => true
  | none => false
theorem range_some {N k : Nat} {p : Nat → Bool} (hk : k < N) (h : p k = true) (hn : ∀ j, j < k → p j = false) : (List.range N).find? p = some k := by
  rw [List.find?_range_eq_some]
  exact ⟨h, by simpa using hk, fun j hj => by simp [hn j hj]⟩
theorem range_none {N : Nat} {p : Nat → Bool} (hn : ∀ j, j < N → p j = false) : (List.range N).find? p = none := by
  rw [List.find?_eq_none]
  intro j hj
  simp [hn j (by simpa using hj)]
def FindOk (w : World) (e : Ending) (w' : World) (r : Option Nat) : Prop := e = .returned (.tuple #[.int .i64 (findI r), .bool (findB r)]) ∧ Below w.heap.size w w'
theorem FindOk.mk' {w : World} {v : Value} {w' : World} {r : Option Nat} (h : v = .tuple #[.int .i64 (findI r), .bool (findB r)]) (hb : Below w.heap.size w w') : FindOk w (.returned v) w' r := ⟨by rw [h], hb⟩
def findA (n : Int) (c : List UInt8) : Option Nat := if 1 ≤ n ∧ n ≤ 5 ∧ c.isEmpty = false then (List.range 48).find? (fun i => codeAt i (n.toNat - 1) == c) else none
theorem findA_some {n : Int} {c : List UInt8} {k : Nat} (h1 : 1 ≤ n) (h2 : n ≤ 5) (h3 : c.isEmpty = false) (hk : k < 48) (h : (codeAt k (n.toNat - 1) == c) = true) (hn : ∀ j, j < k → (codeAt j (n.toNat - 1) == c) = false) : findA n c = some k := by
  unfold findA
  rw [if_pos ⟨h1, h2, h3⟩]
  exact range_some hk h hn
theorem findA_none {n : Int} {c : List UInt8} (h1 : 1 ≤ n) (h2 : n ≤ 5) (h3 : c.isEmpty = false) (hn : ∀ j, j < 48 → (codeAt j (n.toNat - 1) == c) = false) : findA n c = none := by
  unfold findA
  rw [if_pos ⟨h1, h2, h3⟩]
  exact range_none hn
set_option maxHeartbeats 1000000 in
theorem findA_yes (n : Int) (s : ByteArray) (w : World) (B : Nat) (v : Value) (ss : Nat → Value) (h : w.ownsRow B 38 12 v 48 (atomsV 48 ss)) (hss : ∀ i, i < 48 → ∃ a l c, ss i = .slice a l c) (h1 : 1 ≤ n) (h2 : n ≤ 5) (hs : s.toList.isEmpty = false) :
    Calls Tryd.prog 23 #[v, .int .i64 n, .string s, .func (.func 22) #[] #[]] w fun e w' => FindOk w e w' (findA n s.toList) := by
  obtain ⟨g, cap, rfl⟩ := form_of h (by omega)
  have HH := Lib.hid h
  clear h
  go_enter Tryd.func23, Tryd.ntmps23
  go_wp2_with (first | (go_at_call 31; refine (is_yes _ _ h1 h2).mono ?_; rintro e w1 ⟨rfl, rfl⟩))
  go_loopw [21] (fun i wr => ∃ k : Nat, k ≤ 48 ∧ i = .int .i64 k ∧ Below w.heap.size w wr ∧ (∀ j, j < k → (codeAt j (n.toNat - 1) == s.toList) = false)) (fun i _ => 48 - (intOf i).toNat)
  case atStart => exact ⟨0, by omega, rfl, Below.refl _ _, fun j hj => by omega⟩
  case round =>
    obtain ⟨k, hk, rfl, hb, hno⟩ := hrel
    by_cases hlt : k < 48
    · obtain ⟨a, l, c, hsl⟩ := hss k hlt
      have hr := atom_range (ownBelow HH.out hb) k hlt
      rw [hsl] at hr
      clear hsl
      unfold atomList at hr
      have HR := Lib.hid hr; have HB := Lib.hid hb; have HN := Lib.hid hno
      clear hr hb hno
      have hix := fun w => code_index k n h1 h2 w
      go_wp2_with (first | (refine wpList_load_mid rfl 38 _ rfl g _ rfl _ _ HR.out Tryd.underlying38 rfl size_A ?_) | (go_at_call 22; refine (ofAtom_any _ _ _ _ _ _ _ _ _ _ _ _ _ _ _).mono ?_; rintro e w1 ⟨rfl, hb1⟩))
      · have hm : (codeAt k (n.toNat - 1) == s.toList) = true := by assumption
        go_ret2
        exact FindOk.mk' (by rw [findA_some h1 h2 hs hlt hm HN.out]; rfl) ((HB.out.alloc HB.out.size _).trans (hb1.mono (by have := HB.out.size; simp; omega)))
      · have hm : (codeAt k (n.toNat - 1) == s.toList) = false := by assumption
        go_roundw
        case rel => exact ⟨k + 1, by omega, by go_num, (HB.out.alloc HB.out.size _).trans (hb1.mono (by have := HB.out.size; simp; omega)), fun j hj => by
          by_cases e : j = k
          · rw [e]; exact hm
          · exact HN.out j (by omega)⟩
        case measure => simp [intOf]; omega
    · obtain rfl : k = 48 := by omega
      have HB := Lib.hid hb; have HN := Lib.hid hno
      clear hb hno
      go_wp2_with fail
      go_ret2
      exact FindOk.mk' (by rw [findA_none h1 h2 hs HN.out]; rfl) HB.out
set_option maxHeartbeats 400000 in
theorem findA_no (n : Int) (s : ByteArray) (w : World) (v f : Value) (h : (n < 1 ∨ 5 < n) ∨ s.toList.isEmpty = true) :
    Calls Tryd.prog 23 #[v, .int .i64 n, .string s, f] w fun e w' => FindOk w e w' (findA n s.toList) := by
  have hnone : findA n s.toList = none := by
    unfold findA
    rw [if_neg]
    rintro ⟨a, b, c⟩
    rcases h with h | h
    · omega
    · rw [h] at c; cases c
  rw [hnone]
  clear hnone
  by_cases hn : 1 ≤ n ∧ n ≤ 5
  · obtain ⟨hn1, hn2⟩ := hn
    have hs : s.toList.isEmpty = true := by
      rcases h with h | h
      · omega
      · exact h
    clear h
    go_enter Tryd.func23, Tryd.ntmps23
    go_wp2_with (go_at_call 31; refine (is_yes _ _ hn1 hn2).mono ?_; rintro e w1 ⟨rfl, rfl⟩)
    go_ret2
    exact FindOk.mk' rfl (Below.refl _ _)
  · clear h
    go_enter Tryd.func23, Tryd.ntmps23
    go_wp2_with (go_at_call 31; refine (is_no _ _ (by omega)).mono ?_; rintro e w1 ⟨rfl, rfl⟩)
    go_ret2
    exact FindOk.mk' rfl (Below.refl _ _)
theorem findA_any (n : Int) (s : ByteArray) (w : World) (B : Nat) (v : Value) (ss : Nat → Value) (h : w.ownsRow B 38 12 v 48 (atomsV 48 ss)) (hss : ∀ i, i < 48 → ∃ a l c, ss i = .slice a l c) :
    Calls Tryd.prog 23 #[v, .int .i64 n, .string s, .func (.func 22) #[] #[]] w fun e w' => FindOk w e w' (findA n s.toList) := by
  by_cases hn : 1 ≤ n ∧ n ≤ 5
  · cases hs : s.toList.isEmpty with
    | false => exact findA_yes n s w B v ss h hss hn.1 hn.2 hs
    | true => exact findA_no n s w v _ (.inr hs)
  · exact findA_no n s w v _ (.inl (by omega))
def findP (n : Int) (c : List UInt8) : Option Nat := if 1 ≤ n ∧ n ≤ 5 ∧ c.isEmpty = false then (List.range 20).find? (fun i => preCodeAt i (n.toNat - 1) == c) else none
theorem findP_some {n : Int} {c : List UInt8} {k : Nat} (h1 : 1 ≤ n) (h2 : n ≤ 5) (h3 : c.isEmpty = false) (hk : k < 20) (h : (preCodeAt k (n.toNat - 1) == c) = true) (hn : ∀ j, j < k → (preCodeAt j (n.toNat - 1) == c) = false) : findP n c = some k := by
  unfold findP
  rw [if_pos ⟨h1, h2, h3⟩]
  exact range_some hk h hn
theorem findP_none {n : Int} {c : List UInt8} (h1 : 1 ≤ n) (h2 : n ≤ 5) (h3 : c.isEmpty = false) (hn : ∀ j, j < 20 → (preCodeAt j (n.toNat - 1) == c) = false) : findP n c = none := by
  unfold findP
  rw [if_pos ⟨h1, h2, h3⟩]
  exact range_none hn
set_option maxHeartbeats 1000000 in
theorem findP_yes (n : Int) (s : ByteArray) (w : World) (B : Nat) (v : Value) (h : w.ownsRow B 40 6 v 20 (presV tabPres)) (h1 : 1 ≤ n) (h2 : n ≤ 5) (hs : s.toList.isEmpty = false) :
    Calls Tryd.prog 26 #[v, .int .i64 n, .string s, .func (.func 25) #[] #[]] w fun e w' => FindOk w e w' (findP n s.toList) := by
  obtain ⟨g, cap, rfl⟩ := form_of h (by omega)
  have HH := Lib.hid h
  clear h
  go_enter Tryd.func26, Tryd.ntmps26
  go_wp2_with (first | (go_at_call 31; refine (is_yes _ _ h1 h2).mono ?_; rintro e w1 ⟨rfl, rfl⟩))
  go_loopw [21] (fun i wr => ∃ k : Nat, k ≤ 20 ∧ i = .int .i64 k ∧ Below w.heap.size w wr ∧ (∀ j, j < k → (preCodeAt j (n.toNat - 1) == s.toList) = false)) (fun i _ => 20 - (intOf i).toNat)
  case atStart => exact ⟨0, by omega, rfl, Below.refl _ _, fun j hj => by omega⟩
  case round =>
    obtain ⟨k, hk, rfl, hb, hno⟩ := hrel
    by_cases hlt : k < 20
    · have hlt2 := hlt
      have hr := pre_range (ownBelow HH.out hb) k hlt
      unfold preList at hr
      have HR := Lib.hid hr; have HB := Lib.hid hb; have HN := Lib.hid hno
      clear hr hb hno
      have hix := fun w => preCode_index k n h1 h2 w
      go_wp2_with (first | (refine wpList_load_mid rfl 40 _ rfl g _ rfl _ _ HR.out Tryd.underlying40 rfl size_P ?_) | (go_at_call 25; refine (ofPrefix_any _ _ _ _ _ _ _).mono ?_; rintro e w1 ⟨rfl, hb1⟩))
      · have hm : (preCodeAt k (n.toNat - 1) == s.toList) = true := by assumption
        go_ret2
        exact FindOk.mk' (by rw [findP_some h1 h2 hs hlt hm HN.out]; rfl) ((HB.out.alloc HB.out.size _).trans (hb1.mono (by have := HB.out.size; simp; omega)))
      · have hm : (preCodeAt k (n.toNat - 1) == s.toList) = false := by assumption
        go_roundw
        case rel => exact ⟨k + 1, by omega, by go_num, (HB.out.alloc HB.out.size _).trans (hb1.mono (by have := HB.out.size; simp; omega)), fun j hj => by
          by_cases e : j = k
          · rw [e]; exact hm
          · exact HN.out j (by omega)⟩
        case measure => simp [intOf]; omega
    · obtain rfl : k = 20 := by omega
      have HB := Lib.hid hb; have HN := Lib.hid hno
      clear hb hno
      go_wp2_with fail
      go_ret2
      exact FindOk.mk' (by rw [findP_none h1 h2 hs HN.out]; rfl) HB.out
set_option maxHeartbeats 400000 in
theorem findP_no (n : Int) (s : ByteArray) (w : World) (v f : Value) (h : (n < 1 ∨ 5 < n) ∨ s.toList.isEmpty = true) :
    Calls Tryd.prog 26 #[v, .int .i64 n, .string s, f] w fun e w' => FindOk w e w' (findP n s.toList) := by
  have hnone : findP n s.toList = none := by
    unfold findP
    rw [if_neg]
    rintro ⟨a, b, c⟩
    rcases h with h | h
    · omega
    · rw [h] at c; cases c
  rw [hnone]
  clear hnone
  by_cases hn : 1 ≤ n ∧ n ≤ 5
  · obtain ⟨hn1, hn2⟩ := hn
    have hs : s.toList.isEmpty = true := by
      rcases h with h | h
      · omega
      · exact h
    clear h
    go_enter Tryd.func26, Tryd.ntmps26
    go_wp2_with (go_at_call 31; refine (is_yes _ _ hn1 hn2).mono ?_; rintro e w1 ⟨rfl, rfl⟩)
    go_ret2
    exact FindOk.mk' rfl (Below.refl _ _)
  · clear h
    go_enter Tryd.func26, Tryd.ntmps26
    go_wp2_with (go_at_call 31; refine (is_no _ _ (by omega)).mono ?_; rintro e w1 ⟨rfl, rfl⟩)
    go_ret2
    exact FindOk.mk' rfl (Below.refl _ _)
theorem findP_any (n : Int) (s : ByteArray) (w : World) (B : Nat) (v : Value) (h : w.ownsRow B 40 6 v 20 (presV tabPres)) :
    Calls Tryd.prog 26 #[v, .int .i64 n, .string s, .func (.func 25) #[] #[]] w fun e w' => FindOk w e w' (findP n s.toList) := by
  by_cases hn : 1 ≤ n ∧ n ≤ 5
  · cases hs : s.toList.isEmpty with
    | false => exact findP_yes n s w B v  h  hn.1 hn.2 hs
    | true => exact findP_no n s w v _ (.inr hs)
  · exact findP_no n s w v _ (.inl (by omega))
end Go.Proofs.YtiakjbocnfkmnaaDoor
