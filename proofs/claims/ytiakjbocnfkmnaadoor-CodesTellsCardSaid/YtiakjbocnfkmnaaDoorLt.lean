/-
  The walk of the law CodesTells.
-/
import Derived.Test.YtiakjbocnfkmnaaDoorR6
import Derived.Test.YtiakjbocnfkmnaaDoorL6
set_option linter.unusedVariables false
set_option linter.unusedSimpArgs false
namespace Go.Proofs.YtiakjbocnfkmnaaDoor
open Go.RowKit
open Go.Proofs

theorem none_or {α : Type} (r : Option α) : r = none ∨ ∃ i, r = some i := by cases r <;> simp
theorem bel2 {a b c : World} (h : Below a.heap.size a b) (k : Below b.heap.size b c) : Below a.heap.size a c := h.trans (k.mono h.size)
theorem bel8 {a b c d e f g h i : World} (h1 : Below a.heap.size a b) (h2 : Below b.heap.size b c) (h3 : Below c.heap.size c d) (h4 : Below d.heap.size d e) (h5 : Below e.heap.size e f) (h6 : Below f.heap.size f g) (h7 : Below g.heap.size g h) (h8 : Below h.heap.size h i) : Below a.heap.size a i :=
  bel2 (bel2 (bel2 (bel2 (bel2 (bel2 (bel2 h1 h2) h3) h4) h5) h6) h7) h8
set_option maxHeartbeats 2000000 in
theorem tells_any (n at_ : Int) (s : ByteArray) (w : World) (hL : Laid w) : Calls Tryd.prog 9 #[.int .i64 n, .int .i64 at_, .string s] w fun e w' => e = .returned (.bool true) ∧ Below w.heap.size w w' := by
  have HL := Lib.hid hL
  clear hL
  rcases none_or (findA n s.toList) with h1 | ⟨k1, h1⟩
  all_goals
    have HR1 := Lib.hid h1
    clear h1
    rcases none_or (findP n s.toList) with h2 | ⟨k2, h2⟩
    all_goals
      have HR2 := Lib.hid h2
      clear h2
      go_enter Tryd.func9, Tryd.ntmps9
      go_wp2_with fail
      refine (atom_any _ _ _ HL.out).mono ?_
      rintro e w1 ⟨rfl, hb1⟩
      simp only [HR1.out, findI, findB]
      go_wp2_with fail
      refine (prefix_any _ _ _ (HL.out.below hb1)).mono ?_
      rintro e w2 ⟨rfl, hb2⟩
      simp only [HR2.out, findI, findB]
      go_wp2_with fail
      refine (code_any _ _ _ ((HL.out.below hb1).below hb2)).mono ?_
      rintro e w3 ⟨rfl, hb3⟩
      go_wp2_with fail
      refine (refCode_any _ _ _).mono ?_
      rintro e w4 ⟨rfl, hb4⟩
      go_wp2_with fail
      refine (preCode_any _ _ _ ((((HL.out.below hb1).below hb2).below hb3).below hb4)).mono ?_
      rintro e w5 ⟨rfl, hb5⟩
      go_wp2_with fail
      refine (refPreCode_any _ _ _).mono ?_
      rintro e w6 ⟨rfl, hb6⟩
      go_wp2_with fail
      refine (refAtom_any _ _ _).mono ?_
      rintro e w7 ⟨rfl, hb7⟩
      simp only [HR1.out, findI, findB]
      go_wp2_with fail
      refine (refPrefix_any _ _ _).mono ?_
      rintro e w8 ⟨rfl, hb8⟩
      simp only [HR2.out, findI, findB]
      go_wp2_with fail
      go_ret
      exact ⟨rfl, bel8 hb1 hb2 hb3 hb4 hb5 hb6 hb7 hb8⟩
set_option maxHeartbeats 2000000 in
theorem codesTells_any (n at_ : Int) (s : ByteArray) (hs : s.size ≤ maxLen) (w : World) (hL : Laid w) : Calls Tryd.prog 3 #[.int .i64 n, .int .i64 at_, .string s] w fun e w' => e = .returned (.bool true) ∧ Below w.heap.size w w' := by
  have HL := Lib.hid hL
  clear hL
  unfold maxLen at hs
  go_enter Tryd.func3, Tryd.ntmps3
  go_wp2_with fail
  refine (awake_any _ HL.out).mono ?_
  rintro e w1 ⟨rfl, hb1⟩
  go_wp2_with fail
  all_goals
    refine (rest_any _ _ _ (by omega) (by omega)).mono ?_
    rintro e wx ⟨rfl, rfl⟩
    go_wp2_with fail
    refine (rest_any _ _ _ (by omega) (by omega)).mono ?_
    rintro e wx ⟨rfl, rfl⟩
    go_wp2_with fail
    refine (tells_any _ _ _ _ (HL.out.below hb1)).mono ?_
    rintro e w2 ⟨rfl, hb2⟩
    go_wp2_with fail
    refine (tells_any _ _ _ _ ((HL.out.below hb1).below hb2)).mono ?_
    rintro e w3 ⟨rfl, hb3⟩
    go_wp2_with fail
    refine (refCode_any _ _ _).mono ?_
    rintro e w4 ⟨rfl, hb4⟩
    go_wp2_with fail
    refine (tells_any _ _ _ _ ((((HL.out.below hb1).below hb2).below hb3).below hb4)).mono ?_
    rintro e w5 ⟨rfl, hb5⟩
    go_wp2_with fail
    refine (refPreCode_any _ _ _).mono ?_
    rintro e w6 ⟨rfl, hb6⟩
    go_wp2_with fail
    refine (tells_any _ _ _ _ ((((((HL.out.below hb1).below hb2).below hb3).below hb4).below hb5).below hb6)).mono ?_
    rintro e w7 ⟨rfl, hb7⟩
    go_wp2_with fail
    go_ret
    exact ⟨rfl, bel2 (bel2 (bel2 (bel2 (bel2 (bel2 hb1 hb2) hb3) hb4) hb5) hb6) hb7⟩
end Go.Proofs.YtiakjbocnfkmnaaDoor
