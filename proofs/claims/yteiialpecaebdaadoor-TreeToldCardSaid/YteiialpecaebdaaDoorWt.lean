/-
  The law TreeTells: its walk.
-/
import Derived.Test.YteiialpecaebdaaDoorSl
set_option linter.unusedVariables false
set_option linter.unusedSimpArgs false
namespace Go.Proofs.YteiialpecaebdaaDoor
open Go.RowKit
open Go.Proofs
open Tree

theorem Small.texts {t : List StepD} (h : Small t) : Texts t := fun x hx => by have := h x hx; unfold maxLen; omega
theorem spoilt_any (a : Option Addr) (c : Nat) (how at_ n : Int) (text : ByteArray) (t : List StepD) (w : World) (hX : Texts t) (hS : SlAt w a t) (hl : t.length ≤ 900) (hc : t.length ≤ c) (htx : text.size ≤ maxLen) :
    Calls Tryd.prog 11 #[.slice a t.length c, turnV how at_ n text] w (SpOk w t.length) := by
  by_cases h0 : t.length = 0
  · rw [h0]
    exact spoilt_nil a c how at_ n text w
  · obtain ⟨k, hk⟩ : ∃ k, t.length = k + 1 := ⟨t.length - 1, by omega⟩
    rcases hS with rfl | ⟨g, o, rfl, hr⟩
    · simp at h0
    · rw [hk]
      exact spoilt_yes g o c k how at_ n text t w hk hX hr (by omega) (by omega) htx
theorem nil_slat (w : World) : SlAt w none [] := .inl rfl
theorem IntsIn.below {w w' : World} {a : Option Addr} {n c : Nat} (h : IntsIn w a n c) (hb : Below w.heap.size w w') : IntsIn w' a n c := by
  refine ⟨h.1, h.2.1, ?_⟩
  rcases h.2.2 with h0 | ⟨g, o, h1, h2, h3⟩
  · exact .inl h0
  · refine .inr ⟨g, o, h1, Nat.lt_of_lt_of_le h2 hb.size, fun i hi => ?_⟩
    obtain ⟨z, hz⟩ := h3 i hi
    exact ⟨z, cell_below hz hb⟩
set_option maxHeartbeats 2000000 in
theorem treeTells_any (a : Option Addr) (n c : Nat) (h1 p1 n1 : Int) (t1 : ByteArray) (h2 p2 n2 : Int) (t2 : ByteArray) (w : World) (hL : Laid w) (hI : IntsIn w a n c) (hx1 : t1.size ≤ maxLen) (hx2 : t2.size ≤ maxLen) :
    Calls Tryd.prog 3 #[.slice a n c, .agg #[.int .i64 h1, .int .i64 p1, .int .i64 n1, .string t1, .int .i64 h2, .int .i64 p2, .int .i64 n2, .string t2]] w fun e w' => e = .returned (.bool true) ∧ Below w.heap.size w w' := by
  have HL := Lib.hid hL
  have HI := Lib.hid hI
  clear hL hI
  go_enter Tryd.func3, Tryd.ntmps3
  go_wp2_with fail
  have HB0 := Lib.hid (belA w (.cells #[.int .i64 h1, .int .i64 p1, .int .i64 n1, .string t1, .int .i64 h2, .int .i64 p2, .int .i64 n2, .string t2] 25))
  have HQ := Lib.hid (cellNew w #[.int .i64 h1, .int .i64 p1, .int .i64 n1, .string t1, .int .i64 h2, .int .i64 p2, .int .i64 n2, .string t2] 25)
  generalize w.alloc (.cells #[.int .i64 h1, .int .i64 p1, .int .i64 n1, .string t1, .int .i64 h2, .int .i64 p2, .int .i64 n2, .string t2] 25) = w0 at HB0 HQ ⊢
  refine (awake_any w0 (HL.out.below HB0.out)).mono ?_
  rintro e w1 ⟨rfl, hb1⟩
  have HB1 : Hid (Below w.heap.size w w1) := bel2 HB0.out hb1
  go_wp2_with fail
  refine (made_any a n c w1 (HI.out.below HB1.out)).mono ?_
  rintro e w2 ⟨v, T, rfl, ⟨hT, hTx⟩, hTl, hO, hb2⟩
  obtain ⟨a1, c1, rfl, hS1, hc1⟩ := own_sl hO
  have HS1 := Lib.hid hS1
  have HB2 : Hid (Below w.heap.size w w2) := bel2 HB1.out hb2
  have HX1 := Lib.hid hTx.texts
  have q : ∀ (j : Nat) (v : Value), (#[.int .i64 h1, .int .i64 p1, .int .i64 n1, .string t1, .int .i64 h2, .int .i64 p2, .int .i64 n2, .string t2] : Array Value)[j]? = some v → w2.cell? ⟨w.heap.size, j, none⟩ = some v := fun j v h => cell_below (cell_below (HQ.out j v h) hb1) hb2
  have q0 := q 0 _ rfl
  have q1 := q 1 _ rfl
  have q2 := q 2 _ rfl
  have q3 := q 3 _ rfl
  clear hS1 hO hT hTx hb2 hb1
  go_wp2_with fail
  refine (spoilt_any a1 c1 h1 p1 n1 t1 T.ser w2 HX1.out HS1.out (by omega) hc1 hx1).mono ?_
  rintro e w3 ⟨v, u2, rfl, hO2, hX2, hl2, hb3⟩
  obtain ⟨a2, c2, rfl, hS2, hc2⟩ := own_sl hO2
  have HS2 := Lib.hid hS2
  have HX2 := Lib.hid hX2
  have HB3 : Hid (Below w.heap.size w w3) := bel2 HB2.out hb3
  have HS13 := Lib.hid (HS1.out.below hb3)
  have HQ3 : Hid (∀ (j : Nat) (v : Value), (#[.int .i64 h1, .int .i64 p1, .int .i64 n1, .string t1, .int .i64 h2, .int .i64 p2, .int .i64 n2, .string t2] : Array Value)[j]? = some v → w3.cell? ⟨w.heap.size, j, none⟩ = some v) := fun j v h => cell_below (q j v h) hb3
  clear hO2 hS2 hX2 hb3 q q0 q1 q2 q3
  go_wp2_with fail
  refine (tells_any a1 c1 T.ser w3 (HL.out.below HB3.out) HX1.out HS13.out (by omega) hc1).mono ?_
  rintro e w4 ⟨rfl, hb4⟩
  have HB4 : Hid (Below w.heap.size w w4) := bel2 HB3.out hb4
  have HS24 := Lib.hid (HS2.out.below hb4)
  go_wp2_with fail
  refine (tells_any a2 c2 u2 w4 (HL.out.below HB4.out) HX2.out HS24.out (by omega) hc2).mono ?_
  rintro e w5 ⟨rfl, hb5⟩
  have HB5 : Hid (Below w.heap.size w w5) := bel2 HB4.out hb5
  have HS25 := Lib.hid (HS24.out.below hb5)
  have q : ∀ (j : Nat) (v : Value), (#[.int .i64 h1, .int .i64 p1, .int .i64 n1, .string t1, .int .i64 h2, .int .i64 p2, .int .i64 n2, .string t2] : Array Value)[j]? = some v → w5.cell? ⟨w.heap.size, j, none⟩ = some v := fun j v h => cell_below (cell_below (HQ3.out j v h) hb4) hb5
  have q4 := q 4 _ rfl
  have q5 := q 5 _ rfl
  have q6 := q 6 _ rfl
  have q7 := q 7 _ rfl
  clear q hb5 hb4
  go_wp2_with fail
  refine (spoilt_any a2 c2 h2 p2 n2 t2 u2 w5 HX2.out HS25.out (by omega) hc2 hx2).mono ?_
  rintro e w6 ⟨v, t3, rfl, hO3, hX3, hl3, hb6⟩
  obtain ⟨a3, c3, rfl, hS3, hc3⟩ := own_sl hO3
  have HB6 : Hid (Below w.heap.size w w6) := bel2 HB5.out hb6
  have HS3 := Lib.hid hS3
  have HX3 := Lib.hid hX3
  clear hO3 hS3 hX3 hb6 q4 q5 q6 q7
  go_wp2_with fail
  refine (tells_any a3 c3 t3 w6 (HL.out.below HB6.out) HX3.out HS3.out (by omega) hc3).mono ?_
  rintro e w7 ⟨rfl, hb7⟩
  have HB7 : Hid (Below w.heap.size w w7) := bel2 HB6.out hb7
  clear hb7
  go_wp2_with fail
  refine (tells_any none 0 [] w7 (HL.out.below HB7.out) (fun _ h => by cases h) (nil_slat w7) (by simp) (by simp)).mono ?_
  rintro e w8 ⟨rfl, hb8⟩
  go_wp2_with fail
  go_ret
  exact ⟨rfl, bel2 HB7.out hb8⟩
end Go.Proofs.YteiialpecaebdaaDoor
