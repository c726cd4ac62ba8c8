/-
  codes: the contracts of Code, PrefixCode, Atom, Prefix.
-/
import Derived.Test.YtiakjbocnfkmnaaDoorFi
set_option linter.unusedVariables false
set_option linter.unusedSimpArgs false
namespace Go.Proofs.YtiakjbocnfkmnaaDoor
open Go.RowKit
open Go.Proofs

def codeOf (n i : Int) : List UInt8 := if 1 ≤ n ∧ n ≤ 5 ∧ 0 ≤ i ∧ i < 48 then codeAt i.toNat (n.toNat - 1) else []
def preOf (n i : Int) : List UInt8 := if 1 ≤ n ∧ n ≤ 5 ∧ 0 ≤ i ∧ i < 20 then preCodeAt i.toNat (n.toNat - 1) else []
def StrOk (w : World) (e : Ending) (w' : World) (l : List UInt8) : Prop := e = .returned (.string ⟨l.toArray⟩) ∧ Below w.heap.size w w'
theorem StrOk.mk' {w : World} {v : Value} {w' : World} {l : List UInt8} (h : v = .string ⟨l.toArray⟩) (hb : Below w.heap.size w w') : StrOk w (.returned v) w' l := ⟨by rw [h], hb⟩
theorem atA_any (n i : Int) (w : World) (B : Nat) (v : Value) (ss : Nat → Value) (h : w.ownsRow B 38 12 v 48 (atomsV 48 ss)) (hss : ∀ i, i < 48 → ∃ a l c, ss i = .slice a l c) :
    Calls Tryd.prog 20 #[v, .int .i64 n, .int .i64 i, .func (.func 22) #[] #[]] w fun e w' => StrOk w e w' (codeOf n i) := by
  by_cases hc : 1 ≤ n ∧ n ≤ 5 ∧ 0 ≤ i ∧ i < 48
  · obtain ⟨h1, h2, h3, h4⟩ := hc
    refine (atA_yes n i w B v ss h (hss i.toNat (by omega)) h1 h2 h3 h4).mono ?_
    rintro e w' ⟨rfl, hb⟩
    exact StrOk.mk' (by unfold codeOf; rw [if_pos ⟨h1, h2, h3, h4⟩]) hb
  · refine (atA_no n i w B v _ h _ (by omega)).mono ?_
    rintro e w' ⟨rfl, rfl⟩
    exact StrOk.mk' (by unfold codeOf; rw [if_neg hc]) (Below.refl _ _)
theorem atP_any (n i : Int) (w : World) (B : Nat) (v : Value) (h : w.ownsRow B 40 6 v 20 (presV tabPres)) :
    Calls Tryd.prog 24 #[v, .int .i64 n, .int .i64 i, .func (.func 25) #[] #[]] w fun e w' => StrOk w e w' (preOf n i) := by
  by_cases hc : 1 ≤ n ∧ n ≤ 5 ∧ 0 ≤ i ∧ i < 20
  · obtain ⟨h1, h2, h3, h4⟩ := hc
    refine (atP_yes n i w B v h h1 h2 h3 h4).mono ?_
    rintro e w' ⟨rfl, hb⟩
    exact StrOk.mk' (by unfold preOf; rw [if_pos ⟨h1, h2, h3, h4⟩]) hb
  · refine (atP_no n i w B v _ h _ (by omega)).mono ?_
    rintro e w' ⟨rfl, rfl⟩
    exact StrOk.mk' (by unfold preOf; rw [if_neg hc]) (Below.refl _ _)
theorem field_0 (x y : Value) (w : World) : (Instr.field 33 (.agg #[x, y]) 0).run Tryd.prog w = .ok x w := by kernel_rfl
theorem field_1 (x y : Value) (w : World) : (Instr.field 33 (.agg #[x, y]) 1).run Tryd.prog w = .ok y w := by kernel_rfl
set_option maxHeartbeats 400000 in
theorem code_any (n i : Int) (w : World) (hL : Laid w) : Calls Tryd.prog 12 #[.int .i64 n, .int .i64 i] w fun e w' => StrOk w e w' (codeOf n i) := by
  have HL := Lib.hid hL
  clear hL
  have hf := field_0
  go_enter Tryd.func12, Tryd.ntmps12
  go_wp2_with (first | (go_at_call 21; refine (table_ok _ HL.out).mono ?_; intro e w1 hT; obtain ⟨a1, c1, a2, c2, ss, rfl, hT, hb⟩ := hT) | (go_at_call 20; refine (atA_any _ _ _ _ _ ss hT.atoms hT.slices).mono ?_; intro e w2 hS; obtain ⟨rfl, hb2⟩ := hS))
  go_ret
  exact StrOk.mk' rfl (hb.trans (hb2.mono hb.size))
set_option maxHeartbeats 400000 in
theorem preCode_any (n i : Int) (w : World) (hL : Laid w) : Calls Tryd.prog 14 #[.int .i64 n, .int .i64 i] w fun e w' => StrOk w e w' (preOf n i) := by
  have HL := Lib.hid hL
  clear hL
  have hf := field_1
  go_enter Tryd.func14, Tryd.ntmps14
  go_wp2_with (first | (go_at_call 21; refine (table_ok _ HL.out).mono ?_; intro e w1 hT; obtain ⟨a1, c1, a2, c2, ss, rfl, hT, hb⟩ := hT) | (go_at_call 24; refine (atP_any _ _ _ _ _ hT.pres).mono ?_; intro e w2 hS; obtain ⟨rfl, hb2⟩ := hS))
  go_ret
  exact StrOk.mk' rfl (hb.trans (hb2.mono hb.size))
set_option maxHeartbeats 400000 in
theorem atom_any (n : Int) (s : ByteArray) (w : World) (hL : Laid w) : Calls Tryd.prog 13 #[.int .i64 n, .string s] w fun e w' => FindOk w e w' (findA n s.toList) := by
  have HL := Lib.hid hL
  clear hL
  have hf := field_0
  go_enter Tryd.func13, Tryd.ntmps13
  go_wp2_with (first | (go_at_call 21; refine (table_ok _ HL.out).mono ?_; intro e w1 hT; obtain ⟨a1, c1, a2, c2, ss, rfl, hT, hb⟩ := hT) | (go_at_call 23; refine (findA_any _ _ _ _ _ ss hT.atoms hT.slices).mono ?_; intro e w2 hS; obtain ⟨rfl, hb2⟩ := hS))
  go_ret2
  exact FindOk.mk' rfl (hb.trans (hb2.mono hb.size))
set_option maxHeartbeats 400000 in
theorem prefix_any (n : Int) (s : ByteArray) (w : World) (hL : Laid w) : Calls Tryd.prog 15 #[.int .i64 n, .string s] w fun e w' => FindOk w e w' (findP n s.toList) := by
  have HL := Lib.hid hL
  clear hL
  have hf := field_1
  go_enter Tryd.func15, Tryd.ntmps15
  go_wp2_with (first | (go_at_call 21; refine (table_ok _ HL.out).mono ?_; intro e w1 hT; obtain ⟨a1, c1, a2, c2, ss, rfl, hT, hb⟩ := hT) | (go_at_call 26; refine (findP_any _ _ _ _ _ hT.pres).mono ?_; intro e w2 hS; obtain ⟨rfl, hb2⟩ := hS))
  go_ret2
  exact FindOk.mk' rfl (hb.trans (hb2.mono hb.size))
end Go.Proofs.YtiakjbocnfkmnaaDoor
