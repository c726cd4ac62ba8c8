/-
  The law's helpers: awake, short, rest.
-/
import Derived.IntWalk
import Derived.Test.YtaakaajcpjiccaaDoorNa43
import Derived.Test.YtaakaajcpjiccaaDoorNa38
set_option linter.unusedVariables false
set_option linter.unusedSimpArgs false
namespace Go.Proofs.YtaakaajcpjiccaaDoor
open Go.RowKit
open Go.Proofs

theorem ownNe_at {w : World} {B : Nat} {v : Value} {l : List NearD} (h : OwnNe w B v l) : ∃ a c, v = .slice a l.length c ∧ NeAt w a l := by
  rcases h.2 with ⟨rfl, hz⟩ | ⟨g, cap, cur, rfl, _, hgb, _⟩
  · have : l = [] := List.eq_nil_of_length_eq_zero hz
    subst this
    exact ⟨none, 0, rfl, .inl rfl⟩
  · exact ⟨_, cap, rfl, .inr ⟨g, rfl, rangeOf h 0 (l.flatMap nearV).length _ (by rw [List.drop_zero, List.take_length])⟩⟩
theorem NeAt.below {w w' : World} {a : Option Addr} {L : List NearD} (h : NeAt w a L) (hb : Below w.heap.size w w') : NeAt w' a L := by
  rcases h with h | ⟨g, e, h⟩
  · exact .inl h
  · exact .inr ⟨g, e, fun j v hj => cell_under (h j v hj) hb⟩
theorem nearL_len (R : List ByteArray) (s : ByteArray) (k : Nat) : (nearL R s k).length ≤ (k + 1) * R.length := by
  unfold nearL
  have h1 := length_flat_le (fun e => nearQ R s e R.length) R.length (List.range (k + 1)) (fun a _ => nearQ_le _ _ _ _)
  rw [List.length_range] at h1
  exact h1
theorem nearN_le (n k : Int) (s : ByteArray) : (nearN n s k).length ≤ 5000 := by
  unfold nearN
  split
  · rename_i hv
    have h2 := rowB_len n
    have h4 := nearL_len (rowB n) s k.toNat
    have h5 : (k.toNat + 1) * (rowB n).length ≤ 4 * (rowB n).length := Nat.mul_le_mul_right _ (by omega)
    omega
  · simp
theorem rest_eq (x n : Int) (h : 0 < n) (h2 : n < 100000) : (wrap64 (x.tmod n + n)).tmod n = x % n := by
  have h3 := Int.tmod_lt_of_pos x h
  have h4 : -n < x.tmod n := by
    have := Int.tmod_lt_of_pos (-x) h
    rw [Int.neg_tmod] at this
    omega
  have e : wrap64 (x.tmod n + n) = x.tmod n + n := by unfold wrap64; omega
  rw [e, Int.tmod_eq_emod_of_nonneg (by omega), Int.add_emod_right]
  rw [Int.tmod_eq_emod]
  split
  · simp
  · rw [Int.sub_emod, Int.emod_emod_of_dvd _ (Int.dvd_refl n)]
    have : ((n.natAbs : Int)) = n := by omega
    simp [this]
set_option maxHeartbeats 400000 in
theorem rest19_any (x n : Int) (w : World) (h : 0 < n) (h2 : n < 100000) :
    Calls Tryd.prog 10 #[.int .i64 x, .int .i64 n] w fun e w' => e = .returned (.int .i64 (x % n)) ∧ w' = w := by
  have hne : (n == 0) = false := by simp; omega
  have he := Lib.hid (rest_eq x n h h2)
  go_enter Tryd.func10, Tryd.ntmps10
  go_wp2
  go_ret
  exact ⟨by rw [← he.out]; rfl, rfl⟩
/-- The first bytes of a text. -/
def shortS (s : ByteArray) (n : Nat) : ByteArray := if n < s.size then s.extract 0 n else s
theorem shortS_le (s : ByteArray) (n : Nat) : (shortS s n).size ≤ n := by
  unfold shortS
  split
  · rw [ByteArray.size_extract]; omega
  · omega
theorem short_any (s : ByteArray) (n : Nat) (w : World) (hn : n ≤ 100000) : Calls Tryd.prog 9 #[.string s, .int .i64 (n : Int)] w fun e w' => e = .returned (.string (shortS s n)) ∧ w' = w := by
  by_cases h : n < s.size
  · have hd : decide (n < s.size) = true := decide_eq_true h
    have HS : Hid (shortS s n = s.extract 0 n) := by show _ = _; unfold shortS; rw [if_pos h]
    have h1 : (n : Int) ≤ (s.size : Int) := by omega
    go_enter Tryd.func9, Tryd.ntmps9
    go_wp2
    go_ret
    exact ⟨by rw [HS.out]; rfl, rfl⟩
  · have hd : decide (n < s.size) = false := decide_eq_false h
    have HS : Hid (shortS s n = s) := by show _ = _; unfold shortS; rw [if_neg h]
    go_enter Tryd.func9, Tryd.ntmps9
    go_wp2
    go_ret
    exact ⟨by rw [HS.out]; rfl, rfl⟩
set_option maxRecDepth 100000 in
set_option maxHeartbeats 1000000 in
theorem awake_any (w : World) (hL : Laid w) : Calls Tryd.prog 8 #[] w fun e w' => e = .returned (.bool true) ∧ Below w.heap.size w w' := by
  have hn := near_any 1 1 exS (by decide) w hL
  obtain ⟨r, hr⟩ := awake_plain
  rw [hr] at hn
  have HN : Hid (Calls Tryd.prog 12 #[.int .i64 1, .string exS, .int .i64 1] w fun e w1 => ∃ g c, e = .returned (.slice (some ⟨g, 0, none⟩) 1 c) ∧ w1.cell? ⟨g, 0, none⟩ = some (.string exB) ∧ w1.cell? ⟨g, 1, none⟩ = some (.int .i64 1) ∧ Below w.heap.size w w1) := hn.mono (by
    rintro e w1 ⟨v, rfl, ho, hb⟩
    obtain ⟨a, c, rfl, hn⟩ := ownNe_at ho
    obtain ⟨g, rfl, c0, c1, c2⟩ := hn.cell 0 (by simp)
    exact ⟨g, c, rfl, by simpa using c0, by simpa using c1, hb⟩)
  clear hr hn
  have hx : (exB.toList == [109, 109, 111, 108]) = true := by rw [exB_list]; rfl
  go_enter Tryd.func8, Tryd.ntmps8
  go_wp2_with (go_at_call 12; refine HN.out.mono ?_; rintro e w1 ⟨g, c, rfl, c0, c1, hb⟩)
  go_ret
  exact ⟨rfl, hb⟩
end Go.Proofs.YtaakaajcpjiccaaDoor
