/-
  codes: the contracts of 'is', 'ofAtom', 'ofPrefix', 'at'.
-/
import Derived.Test.YtiakjbocnfkmnaaDoorTr
set_option linter.unusedVariables false
set_option linter.unusedSimpArgs false
namespace Go.Proofs.YtiakjbocnfkmnaaDoor
open Go.RowKit
open Go.Proofs

set_option maxHeartbeats 400000 in
theorem is_yes (n : Int) (w : World) (h1 : 1 ≤ n) (h2 : n ≤ 5) :
    Calls Tryd.prog 31 #[.int .i64 n] w fun e w' => e = .returned (.bool true) ∧ w = w' := by
  have hd : decide (n ≤ 5) = true := by simpa using h2
  go_enter Tryd.func31, Tryd.ntmps31
  go_wp2
  go_ret
  exact ⟨rfl, rfl⟩
set_option maxHeartbeats 400000 in
theorem is_no (n : Int) (w : World) (h : n < 1 ∨ 5 < n) :
    Calls Tryd.prog 31 #[.int .i64 n] w fun e w' => e = .returned (.bool false) ∧ w = w' := by
  rcases h with h | h
  · go_enter Tryd.func31, Tryd.ntmps31
    go_wp2
    go_ret
    exact ⟨rfl, rfl⟩
  · have h1 : 1 ≤ n := by omega
    have hd : decide (n ≤ 5) = false := by simp; omega
    go_enter Tryd.func31, Tryd.ntmps31
    go_wp2
    go_ret
    exact ⟨rfl, rfl⟩
set_option maxHeartbeats 400000 in
theorem ofAtom_any (s0 s1 s2 s3 s4 : ByteArray) (m : Bool) (tag base num den ten : Int) (a : Option Addr) (l c : Nat) (w : World) :
    Calls Tryd.prog 22 #[.agg #[.string s0, .string s1, .string s2, .string s3, .string s4, .bool m, .int .i64 tag, .int .i64 base, .int .i64 num, .int .i64 den, .int .i64 ten, .slice a l c]] w fun e w' =>
     e = .returned (.agg #[.string s0, .string s1, .string s2, .string s3, .string s4]) ∧ Below w.heap.size w w' := by
  go_enter Tryd.func22, Tryd.ntmps22
  go_wp2
  exact bodyPost_ret (v := .agg #[.string s0, .string s1, .string s2, .string s3, .string s4]) (by simp [results, Tryd.results22, go_sem]) rfl ⟨rfl, ((Below.refl _ _).alloc (Nat.le_refl _) _).alloc (by simp) _⟩
set_option maxHeartbeats 400000 in
theorem ofPrefix_any (s0 s1 s2 s3 s4 : ByteArray) (ten : Int) (w : World) :
    Calls Tryd.prog 25 #[.agg #[.string s0, .string s1, .string s2, .string s3, .string s4, .int .i64 ten]] w fun e w' =>
     e = .returned (.agg #[.string s0, .string s1, .string s2, .string s3, .string s4]) ∧ Below w.heap.size w w' := by
  go_enter Tryd.func25, Tryd.ntmps25
  go_wp2
  exact bodyPost_ret (v := .agg #[.string s0, .string s1, .string s2, .string s3, .string s4]) (by simp [results, Tryd.results25, go_sem]) rfl ⟨rfl, ((Below.refl _ _).alloc (Nat.le_refl _) _).alloc (by simp) _⟩

theorem ci0 (s0 s1 s2 s3 s4 : ByteArray) (w : World) : (Instr.index 35 (.agg #[.string s0, .string s1, .string s2, .string s3, .string s4]) (.int .i64 0)).run Tryd.prog w = .ok (.string s0) w := by kernel_rfl
theorem ci1 (s0 s1 s2 s3 s4 : ByteArray) (w : World) : (Instr.index 35 (.agg #[.string s0, .string s1, .string s2, .string s3, .string s4]) (.int .i64 1)).run Tryd.prog w = .ok (.string s1) w := by kernel_rfl
theorem ci2 (s0 s1 s2 s3 s4 : ByteArray) (w : World) : (Instr.index 35 (.agg #[.string s0, .string s1, .string s2, .string s3, .string s4]) (.int .i64 2)).run Tryd.prog w = .ok (.string s2) w := by kernel_rfl
theorem ci3 (s0 s1 s2 s3 s4 : ByteArray) (w : World) : (Instr.index 35 (.agg #[.string s0, .string s1, .string s2, .string s3, .string s4]) (.int .i64 3)).run Tryd.prog w = .ok (.string s3) w := by kernel_rfl
theorem ci4 (s0 s1 s2 s3 s4 : ByteArray) (w : World) : (Instr.index 35 (.agg #[.string s0, .string s1, .string s2, .string s3, .string s4]) (.int .i64 4)).run Tryd.prog w = .ok (.string s4) w := by kernel_rfl
theorem code_index (k : Nat) (n : Int) (h1 : 1 ≤ n) (h2 : n ≤ 5) (w : World) :
    (Instr.index 35 (.agg #[.string ⟨(codeAt k 0).toArray⟩, .string ⟨(codeAt k 1).toArray⟩, .string ⟨(codeAt k 2).toArray⟩, .string ⟨(codeAt k 3).toArray⟩, .string ⟨(codeAt k 4).toArray⟩]) (.int .i64 (n - 1))).run Tryd.prog w = .ok (.string ⟨(codeAt k (n.toNat - 1)).toArray⟩) w := by
  have : n = 1 ∨ n = 2 ∨ n = 3 ∨ n = 4 ∨ n = 5 := by omega
  rcases this with rfl | rfl | rfl | rfl | rfl
  · exact ci0 _ _ _ _ _ w
  · exact ci1 _ _ _ _ _ w
  · exact ci2 _ _ _ _ _ w
  · exact ci3 _ _ _ _ _ w
  · exact ci4 _ _ _ _ _ w
set_option maxHeartbeats 400000 in
theorem atA_yes (n i : Int) (w : World) (B : Nat) (v : Value) (ss : Nat → Value) (h : w.ownsRow B 38 12 v 48 (atomsV 48 ss)) (hss : ∃ a l c, ss i.toNat = .slice a l c) (h1 : 1 ≤ n) (h2 : n ≤ 5) (h3 : 0 ≤ i) (h4 : i < 48) :
    Calls Tryd.prog 20 #[v, .int .i64 n, .int .i64 i, .func (.func 22) #[] #[]] w fun e w' => e = .returned (.string ⟨(codeAt i.toNat (n.toNat - 1)).toArray⟩) ∧ Below w.heap.size w w' := by
  obtain ⟨g, cap, rfl⟩ := form_of h (by omega)
  obtain ⟨a, l, c, hs⟩ := hss
  have hr := atom_range h i.toNat (by omega)
  rw [hs] at hr
  unfold atomList at hr
  have HR := Lib.hid hr
  clear hr
  have hix := fun w => code_index i.toNat n h1 h2 w
  have hd : decide (i < 0) = false := by simp; omega
  have hd2 : decide (48 ≤ i) = false := by simp; omega
  clear h
  go_enter Tryd.func20, Tryd.ntmps20
  go_wp2_with (first | (refine wpList_load_mid rfl 38 _ rfl g _ rfl _ _ HR.out Tryd.underlying38 rfl size_A ?_) | (go_at_call 31; refine (is_yes _ _ h1 h2).mono ?_; rintro e w1 ⟨rfl, rfl⟩) | (go_at_call 22; refine (ofAtom_any _ _ _ _ _ _ _ _ _ _ _ _ _ _ _).mono ?_; rintro e w1 ⟨rfl, hb⟩))
  go_ret
  exact ⟨rfl, hb⟩
theorem own_len {w : World} {B e z n : Nat} {v : Value} {xs : List Value} (h : w.ownsRow B e z v n xs) : ∃ a c, v = .slice a n c := slice_of h
set_option maxHeartbeats 400000 in
theorem atA_no (n i : Int) (w : World) (B : Nat) (v : Value) (xs : List Value) (h : w.ownsRow B 38 12 v 48 xs) (f : Value) (h1 : n < 1 ∨ 5 < n ∨ i < 0 ∨ 48 ≤ i) :
    Calls Tryd.prog 20 #[v, .int .i64 n, .int .i64 i, f] w fun e w' => e = .returned (.string ⟨#[]⟩) ∧ w = w' := by
  obtain ⟨a, c, rfl⟩ := slice_of h
  clear h
  by_cases hn : 1 ≤ n ∧ n ≤ 5
  · obtain ⟨hn1, hn2⟩ := hn
    by_cases hi : i < 0
    · have hd : decide (i < 0) = true := by simpa using hi
      go_enter Tryd.func20, Tryd.ntmps20
      go_wp2_with (go_at_call 31; refine (is_yes _ _ hn1 hn2).mono ?_; rintro e w1 ⟨rfl, rfl⟩)
      go_ret
      exact ⟨rfl, rfl⟩
    · have hd : decide (i < 0) = false := by simpa using hi
      have hi2 : 48 ≤ i := by omega
      have hd2 : decide (48 ≤ i) = true := by simpa using hi2
      go_enter Tryd.func20, Tryd.ntmps20
      go_wp2_with (go_at_call 31; refine (is_yes _ _ hn1 hn2).mono ?_; rintro e w1 ⟨rfl, rfl⟩)
      go_ret
      exact ⟨rfl, rfl⟩
  · go_enter Tryd.func20, Tryd.ntmps20
    go_wp2_with (go_at_call 31; refine (is_no _ _ (by omega)).mono ?_; rintro e w1 ⟨rfl, rfl⟩)
    go_ret
    exact ⟨rfl, rfl⟩
theorem preCode_index (k : Nat) (n : Int) (h1 : 1 ≤ n) (h2 : n ≤ 5) (w : World) :
    (Instr.index 35 (.agg #[.string ⟨(preCodeAt k 0).toArray⟩, .string ⟨(preCodeAt k 1).toArray⟩, .string ⟨(preCodeAt k 2).toArray⟩, .string ⟨(preCodeAt k 3).toArray⟩, .string ⟨(preCodeAt k 4).toArray⟩]) (.int .i64 (n - 1))).run Tryd.prog w = .ok (.string ⟨(preCodeAt k (n.toNat - 1)).toArray⟩) w := by
  have : n = 1 ∨ n = 2 ∨ n = 3 ∨ n = 4 ∨ n = 5 := by omega
  rcases this with rfl | rfl | rfl | rfl | rfl
  · exact ci0 _ _ _ _ _ w
  · exact ci1 _ _ _ _ _ w
  · exact ci2 _ _ _ _ _ w
  · exact ci3 _ _ _ _ _ w
  · exact ci4 _ _ _ _ _ w
set_option maxHeartbeats 400000 in
theorem atP_yes (n i : Int) (w : World) (B : Nat) (v : Value) (h : w.ownsRow B 40 6 v 20 (presV tabPres)) (h1 : 1 ≤ n) (h2 : n ≤ 5) (h3 : 0 ≤ i) (h4 : i < 20) :
    Calls Tryd.prog 24 #[v, .int .i64 n, .int .i64 i, .func (.func 25) #[] #[]] w fun e w' => e = .returned (.string ⟨(preCodeAt i.toNat (n.toNat - 1)).toArray⟩) ∧ Below w.heap.size w w' := by
  obtain ⟨g, cap, rfl⟩ := form_of h (by omega)
  have hr := pre_range h i.toNat (by omega)
  unfold preList at hr
  have HR := Lib.hid hr
  clear hr
  have hix := fun w => preCode_index i.toNat n h1 h2 w
  have hd : decide (i < 0) = false := by simp; omega
  have hd2 : decide (20 ≤ i) = false := by simp; omega
  clear h
  go_enter Tryd.func24, Tryd.ntmps24
  go_wp2_with (first | (refine wpList_load_mid rfl 40 _ rfl g _ rfl _ _ HR.out Tryd.underlying40 rfl size_P ?_) | (go_at_call 31; refine (is_yes _ _ h1 h2).mono ?_; rintro e w1 ⟨rfl, rfl⟩) | (go_at_call 25; refine (ofPrefix_any _ _ _ _ _ _ _).mono ?_; rintro e w1 ⟨rfl, hb⟩))
  go_ret
  exact ⟨rfl, hb⟩
set_option maxHeartbeats 400000 in
theorem atP_no (n i : Int) (w : World) (B : Nat) (v : Value) (xs : List Value) (h : w.ownsRow B 40 6 v 20 xs) (f : Value) (h1 : n < 1 ∨ 5 < n ∨ i < 0 ∨ 20 ≤ i) :
    Calls Tryd.prog 24 #[v, .int .i64 n, .int .i64 i, f] w fun e w' => e = .returned (.string ⟨#[]⟩) ∧ w = w' := by
  obtain ⟨a, c, rfl⟩ := slice_of h
  clear h
  by_cases hn : 1 ≤ n ∧ n ≤ 5
  · obtain ⟨hn1, hn2⟩ := hn
    by_cases hi : i < 0
    · have hd : decide (i < 0) = true := by simpa using hi
      go_enter Tryd.func24, Tryd.ntmps24
      go_wp2_with (go_at_call 31; refine (is_yes _ _ hn1 hn2).mono ?_; rintro e w1 ⟨rfl, rfl⟩)
      go_ret
      exact ⟨rfl, rfl⟩
    · have hd : decide (i < 0) = false := by simpa using hi
      have hi2 : 20 ≤ i := by omega
      have hd2 : decide (20 ≤ i) = true := by simpa using hi2
      go_enter Tryd.func24, Tryd.ntmps24
      go_wp2_with (go_at_call 31; refine (is_yes _ _ hn1 hn2).mono ?_; rintro e w1 ⟨rfl, rfl⟩)
      go_ret
      exact ⟨rfl, rfl⟩
  · go_enter Tryd.func24, Tryd.ntmps24
    go_wp2_with (go_at_call 31; refine (is_no _ _ (by omega)).mono ?_; rintro e w1 ⟨rfl, rfl⟩)
    go_ret
    exact ⟨rfl, rfl⟩
end Go.Proofs.YtiakjbocnfkmnaaDoor
