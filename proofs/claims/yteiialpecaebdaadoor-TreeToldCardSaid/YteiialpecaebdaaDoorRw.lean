/-
  The reference's row of numbers: Next.
-/
import Derived.Test.YteiialpecaebdaaDoorNs
set_option linter.unusedVariables false
set_option linter.unusedSimpArgs false
namespace Go.Proofs.YteiialpecaebdaaDoor
open Go.RowKit
open Go.Proofs

theorem rest_eq (x n : Int) (h : 0 < n) (h2 : n < 100000) : (wrap64 (x.tmod n + n)).tmod n = x % n := by
  have h3 := Int.tmod_lt_of_pos x h
  have h4 : -n < x.tmod n := by
    have := Int.tmod_lt_of_pos (-x) h
    rw [Int.neg_tmod] at this
    omega
  have e : wrap64 (x.tmod n + n) = x.tmod n + n := by unfold wrap64; omega
  rw [e, Int.tmod_eq_emod_of_nonneg (by omega), Int.add_emod_right]
  rw [Int.tmod_eq_emod]
  split
  · simp
  · rw [Int.sub_emod, Int.emod_emod_of_dvd _ (Int.dvd_refl n)]
    have : ((n.natAbs : Int)) = n := by omega
    simp [this]
set_option maxHeartbeats 400000 in
theorem rest_any (x n : Int) (w : World) (h : 0 < n) (h2 : n < 100000) :
    Calls Tryd.prog 14 #[.int .i64 x, .int .i64 n] w fun e w' => e = .returned (.int .i64 (x % n)) ∧ w' = w := by
  have hne : (n == 0) = false := by simp; omega
  have he := Lib.hid (rest_eq x n h h2)
  go_enter Tryd.func14, Tryd.ntmps14
  go_wp2
  go_ret
  exact ⟨by rw [← he.out]; rfl, rfl⟩
/-- The numbers of a row lie in blocks below 'b'. -/
def IntsAt (b : Nat) (w : World) (a : Option Addr) (n : Nat) : Prop := n = 0 ∨ ∃ g o, a = some ⟨g, o, none⟩ ∧ g < b ∧ ∀ i, i < n → ∃ z : Int, w.cell? ⟨g, o + i, none⟩ = some (.int .i64 z)
def RowAt (b : Nat) (w : World) (a : Option Addr) (n c k : Nat) : Prop := w.heap[b]? = some (.cells #[.slice a n c, .int .i64 k] 52 (0, 0)) ∧ k ≤ n ∧ n ≤ 1000 ∧ IntsAt b w a n
def Row (b : Nat) (w : World) : Prop := ∃ a n c k, RowAt b w a n c k
def NextOk (b : Nat) (n : Int) (w : World) (e : Ending) (w' : World) : Prop := ∃ r : Int, e = .returned (.int .i64 r) ∧ 0 ≤ r ∧ r < n ∧ Row b w' ∧ w.grownBy w' (some b)
theorem Row.kept {b : Nat} {w w' : World} (h : Row b w) (hg : Below w.heap.size w w') : Row b w' := by
  obtain ⟨a, n, c, k, h1, h2, h3, h4⟩ := h
  have hb := (Array.getElem?_eq_some_iff.1 h1).1
  refine ⟨a, n, c, k, (hg.block b hb).trans h1, h2, h3, ?_⟩
  rcases h4 with h4 | ⟨g, o, h5, h6, h7⟩
  · exact .inl h4
  · refine .inr ⟨g, o, h5, h6, fun i hi => ?_⟩
    obtain ⟨z, hz⟩ := h7 i hi
    exact ⟨z, cell_below hz hg⟩
theorem Row.next {b g o n c k n1 n2 : Nat} {w : World} (h1 : w.heap[b]? = some (.cells #[.slice (some ⟨g, o, none⟩) n c, .int .i64 k] 52 (0, 0))) (hk : k < n) (hn : n ≤ 1000) (hi : g < b ∧ ∀ i, i < n → ∃ z : Int, w.cell? ⟨g, o + i, none⟩ = some (.int .i64 z)) :
    Row b (((w.drewN n1).setCell ⟨b, 1, none⟩ (.int .i64 (k + 1))).drewN n2) := by
  refine ⟨_, n, c, k + 1, heap_setCell_same w b 1 _ _ _ h1, by omega, hn, .inr ⟨g, o, rfl, hi.1, fun i hin => ?_⟩⟩
  obtain ⟨z, hz⟩ := hi.2 i hin
  refine ⟨z, ?_⟩
  show ((w.setCell ⟨b, 1, none⟩ (.int .i64 (k + 1)))).cell? ⟨g, o + i, none⟩ = _
  rw [World.cell?_setCell_far _ _ _ _ (by have := hi.1; show b ≠ g; omega)]
  exact hz
set_option maxHeartbeats 1000000 in
theorem next_any (b : Nat) (m : Int) (w : World) (hR : Row b w) (hm : 0 < m) (hm2 : m < 100000) :
    Calls Tryd.prog 33 #[.pointer (some ⟨b, 0, none⟩), .int .i64 m] w (NextOk b m w) := by
  obtain ⟨a, n, c, k, h1, h2, h3, h4⟩ := hR
  have hb := (Array.getElem?_eq_some_iff.1 h1).1
  have c0 : w.cell? ⟨b, 0, none⟩ = some (.slice a n c) := by simp [World.cell?, h1]
  have c1 : w.cell? ⟨b, 1, none⟩ = some (.int .i64 k) := by simp [World.cell?, h1]
  have f1 : w.frozen? ⟨b, 1, none⟩ = false := by simp [World.frozen?, h1]
  have H1 := Lib.hid h1
  have H4 := Lib.hid h4
  clear h1 h4
  by_cases hk : k < n
  · have hd : decide ((n : Int) ≤ k) = false := by simp; omega
    obtain ⟨g, o, rfl, hgb, hi⟩ : ∃ g o, a = some ⟨g, o, none⟩ ∧ g < b ∧ ∀ i, i < n → ∃ z : Int, w.cell? ⟨g, o + i, none⟩ = some (.int .i64 z) := by
      rcases H4.out with h | h
      · omega
      · exact h
    obtain ⟨z, hz⟩ := hi k hk
    have hi' := Lib.hid hi
    clear hi
    have hmz : (m == 0) = false := by simp; omega
    go_enter Tryd.func33, Tryd.ntmps33
    go_wp2_with fail
    go_quiet (fail)
    go_wp2_with fail
    go_quiet (fail)
    go_wp2_with fail
    have hre := rest_eq z m hm hm2
    go_ret
    refine ⟨z % m, ?_, Int.emod_nonneg _ (by omega), Int.emod_lt_of_pos _ hm, ?_, ?_⟩
    · rw [← hre]; rfl
    · exact Row.next H1.out hk h3 ⟨hgb, hi'.out⟩
    · have h := grownBy_setCell w ⟨b, 1, none⟩ (.int .i64 (k + 1))
      exact ⟨h.os, h.tape, h.output, h.size, h.block⟩
  · have hd : decide ((n : Int) ≤ k) = true := by simp; omega
    go_enter Tryd.func33, Tryd.ntmps33
    go_wp2_with fail
    go_quiet (fail)
    go_wp2_with fail
    go_ret
    refine ⟨0, rfl, by omega, hm, ⟨a, n, c, k, H1.out, h2, h3, H4.out⟩, ?_⟩
    have h := grownBy_below (B := 0) (Below.refl w.heap.size w) (some b)
    exact ⟨h.os, h.tape, h.output, h.size, h.block⟩
end Go.Proofs.YteiialpecaebdaaDoor
