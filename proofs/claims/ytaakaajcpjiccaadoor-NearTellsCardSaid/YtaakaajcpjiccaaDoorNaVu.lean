/-
  NearTells.
-/
import Derived.Test.YtaakaajcpjiccaaDoorNa44
set_option linter.unusedVariables false
set_option linter.unusedSimpArgs false
namespace Go.Proofs.YtaakaajcpjiccaaDoor
open Go.RowKit
open Go.Proofs

/-- near.Near, and the document's answer, are held against one another. -/
theorem same_near (n k : Int) (s : ByteArray) (hs : s.size ≤ 1000) (w : World) (hL : Laid w) : ∀ X, Below w.heap.size w X →
    Calls Tryd.prog 12 #[.int .i64 n, .string s, .int .i64 k] X fun e X1 => ∃ a1 c1, e = .returned (.slice a1 (nearN n s k).length c1) ∧ Below w.heap.size w X1 ∧ NeAt X1 a1 (nearN n s k) := fun X hX =>
  (near_any n k s hs X (laid_under hL hX)).mono (by
    rintro e X1 ⟨v, rfl, ho, hb⟩
    obtain ⟨a, c, rfl, hn⟩ := ownNe_at ho
    exact ⟨a, c, rfl, hX.trans (hb.mono hX.size), hn⟩)
theorem same_rnear (n k : Int) (s : ByteArray) (hs : s.size ≤ 1000) (w : World) : ∀ X, Below w.heap.size w X →
    Calls Tryd.prog 13 #[.int .i64 n, .string s, .int .i64 k] X fun e X1 => ∃ a1 c1, e = .returned (.slice a1 (nearN n s k).length c1) ∧ Below w.heap.size w X1 ∧ NeAt X1 a1 (nearN n s k) ∧ Below X.heap.size X X1 := fun X hX =>
  (rnear_any n k s hs X).mono (by
    rintro e X1 ⟨v, rfl, ho, hb⟩
    obtain ⟨a, c, rfl, hn⟩ := ownNe_at ho
    exact ⟨a, c, rfl, hX.trans (hb.mono hX.size), hn, hb⟩)
set_option maxRecDepth 100000 in
set_option maxHeartbeats 4000000 in
theorem nearTells_any (n : Int) (s : ByteArray) (k : Int) (w : World) (hL : Laid w) : Calls Tryd.prog 3 #[.int .i64 n, .string s, .int .i64 k] w fun e w' => e = .returned (.bool true) ∧ Below w.heap.size w w' := by
  have hs : (shortS s 20).size ≤ 1000 := by have := shortS_le s 20; omega
  have HAW := Lib.hid (awake_any w hL)
  have HSH := Lib.hid (fun X => short_any s 20 X (by omega))
  have HRE := Lib.hid (fun X => rest19_any n 5 X (by omega) (by omega))
  obtain ⟨m, hm⟩ : ∃ m, n % 5 = m := ⟨_, rfl⟩
  have hm0 : 0 ≤ m ∧ m < 5 := by omega
  rw [hm] at HRE
  obtain ⟨N, hNE, hRN, hLE⟩ : ∃ N : Int → Int → List NearD,
      (∀ (a b : Int) (X : World), Below w.heap.size w X → Calls Tryd.prog 12 #[.int .i64 a, .string (shortS s 20), .int .i64 b] X fun e X1 => ∃ a1 c1, e = .returned (.slice a1 (N a b).length c1) ∧ Below w.heap.size w X1 ∧ NeAt X1 a1 (N a b)) ∧
      (∀ (a b : Int) (X : World), Below w.heap.size w X → Calls Tryd.prog 13 #[.int .i64 a, .string (shortS s 20), .int .i64 b] X fun e X1 => ∃ a1 c1, e = .returned (.slice a1 (N a b).length c1) ∧ Below w.heap.size w X1 ∧ NeAt X1 a1 (N a b) ∧ Below X.heap.size X X1) ∧
      (∀ a b : Int, (N a b).length ≤ 5000) :=
    ⟨fun a b => nearN a (shortS s 20) b, fun a b => same_near a b (shortS s 20) hs w hL, fun a b => same_rnear a b (shortS s 20) hs w, fun a b => nearN_le a b (shortS s 20)⟩
  have HNE := Lib.hid hNE
  have HRN := Lib.hid hRN
  have HLE := Lib.hid hLE
  clear hNE hRN hLE
  clear hL hm hs
  generalize shortS s 20 = t at HSH HNE HRN
  go_enter Tryd.func3, Tryd.ntmps3
  go_wp2_with (first
    | (go_at_call 8; refine HAW.out.mono ?_; rintro e w1 ⟨rfl, hb⟩; have HB1 := Lib.hid hb; clear hb)
    | (go_at_call 9; refine (HSH.out _).mono ?_; rintro e w' ⟨rfl, hw⟩; rw [hw]; clear hw)
    | (go_at_call 10; refine (HRE.out _).mono ?_; rintro e w' ⟨rfl, hw⟩; rw [hw]; clear hw))
  refine (HNE.out n k w1 HB1.out).mono ?_
  rintro e x1 ⟨a1, c1, rfl, hb1, hn1⟩
  have HBx1 := Lib.hid hb1
  have HNx1 := Lib.hid hn1
  clear hb1 hn1
  go_wp2_with fail
  refine (HRN.out n k x1 HBx1.out).mono ?_
  rintro e y1 ⟨d1, f1, rfl, hb1, hn1, hx1⟩
  have HBy1 := Lib.hid hb1
  have HS1 := Lib.hid (same_yes (N n k) a1 d1 c1 f1 y1 (by have := HLE.out n k; omega) (HNx1.out.below hx1) hn1)
  clear hb1 hn1 hx1
  go_wp2_with fail
  refine HS1.out.mono ?_
  rintro e z1 ⟨rfl, hz1⟩
  have HBz1 : Hid (Below w.heap.size w z1) := HBy1.out.trans (hz1.mono HBy1.out.size)
  clear hz1
  go_wp2_with fail
  refine (HNE.out _ _ z1 HBz1.out).mono ?_
  rintro e x2 ⟨a2, c2, rfl, hb2, hn2⟩
  have HBx2 := Lib.hid hb2
  have HNx2 := Lib.hid hn2
  clear hb2 hn2
  go_wp2_with fail
  refine (HRN.out _ _ x2 HBx2.out).mono ?_
  rintro e y2 ⟨d2, f2, rfl, hb2, hn2, hx2⟩
  have HBy2 := Lib.hid hb2
  have HS2 := Lib.hid (same_yes _ a2 d2 c2 f2 y2 (Nat.le_trans (HLE.out _ _) (by omega)) (HNx2.out.below hx2) hn2)
  clear hb2 hn2 hx2
  go_wp2_with fail
  refine HS2.out.mono ?_
  rintro e z2 ⟨rfl, hz2⟩
  have HBz2 : Hid (Below w.heap.size w z2) := HBy2.out.trans (hz2.mono HBy2.out.size)
  clear hz2
  go_wp2_with fail
  go_ret
  exact ⟨rfl, HBz2.out⟩
end Go.Proofs.YtaakaajcpjiccaaDoor
