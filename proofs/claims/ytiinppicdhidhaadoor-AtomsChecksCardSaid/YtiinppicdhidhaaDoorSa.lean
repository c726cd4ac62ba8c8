/-
  The reference's SameAtom, at two atoms that are the same.
-/
import Derived.Test.YtiinppicdhidhaaDoorAr

set_option linter.unusedVariables false
set_option linter.unusedSimpArgs false
namespace Go.Proofs.YtiinppicdhidhaaDoor
open Go.RowKit
open Go.Proofs

theorem info_Str : ∃ i, Tryd.prog.info? 9 = some i := by
  have h : (Tryd.prog.info? 9).isSome = true := by kernel_rfl
  exact Option.isSome_iff_exists.1 h
theorem cells_Str : Tryd.prog.cellsOf 9 = 1 := by kernel_rfl
theorem eq5_same (d : Nat) (x0 x1 x2 x3 x4 : ByteArray) (W : World) : (Op.equalIn (d + 2) 30 (.agg #[.string x0, .string x1, .string x2, .string x3, .string x4]) (.agg #[.string x0, .string x1, .string x2, .string x3, .string x4])).run Tryd.prog W = .ok true W := by
  obtain ⟨i, hi⟩ := info_Str
  rw [run_equalIn_array W (d + 1) _ _ Tryd.underlying30 hi, cells_Str]
  have hu := Tryd.underlying9
  simp [Op.eqItems, List.range_succ, go_sem, hu]
theorem below_under {B : Nat} {w w' w2 : World} (h : Below B w w') (hb : Below w'.heap.size w' w2) (hB : B ≤ w'.heap.size) : Below B w w2 := h.trans (hb.mono hB)
theorem termsIn_at {w : World} {a : Option Addr} {ts : List (Int × Int)} (h : TermsIn w a ts) (k : Nat) (hk : k < ts.length) : ∃ b off, a = some ⟨b, off, none⟩ ∧ w.cell? ⟨b, off + k * 2, none⟩ = some (.int .i64 ts[k].1) ∧ w.cell? ⟨b, off + k * 2 + 1, none⟩ = some (.int .i64 ts[k].2) := by
  rcases h with h | ⟨b, off, h1, h2, h3⟩
  · rw [h] at hk; simp at hk
  · exact ⟨b, off, h1, term_range h2 k hk 0 _ rfl, term_range h2 k hk 1 _ rfl⟩
set_option maxRecDepth 100000 in
set_option maxHeartbeats 8000000 in
theorem same_yes (x0 x1 x2 x3 x4 : ByteArray) (xm : Bool) (xt xb xn xd xe : Int) (ta : Option Addr) (ca : Nat) (tb : Option Addr) (cb : Nat) (ts : List (Int × Int)) (w : World) (hA : TermsIn w ta ts) (hB : TermsIn w tb ts) (hl : ts.length ≤ 10000) :
    Calls Tryd.prog 12 #[.agg #[.string x0, .string x1, .string x2, .string x3, .string x4, .bool xm, .int .i64 xt, .int .i64 xb, .int .i64 xn, .int .i64 xd, .int .i64 xe, .slice ta ts.length ca], .agg #[.string x0, .string x1, .string x2, .string x3, .string x4, .bool xm, .int .i64 xt, .int .i64 xb, .int .i64 xn, .int .i64 xd, .int .i64 xe, .slice tb ts.length cb]] w fun e w' => e = .returned (.bool true) ∧ Below w.heap.size w w' := by
  have HA := Lib.hid hA
  have HB := Lib.hid hB
  clear hA hB
  have he5 := fun W => eq5_same 9998 x0 x1 x2 x3 x4 W
  go_enter Tryd.func12, Tryd.ntmps12
  go_wp2_with fail
  obtain ⟨V, hV⟩ : ∃ V, (w.alloc (.cells #[.string x0, .string x1, .string x2, .string x3, .string x4, .bool xm, .int .i64 xt, .int .i64 xb, .int .i64 xn, .int .i64 xd, .int .i64 xe, .slice ta ts.length ca] 33)).alloc (.cells #[.string x0, .string x1, .string x2, .string x3, .string x4, .bool xm, .int .i64 xt, .int .i64 xb, .int .i64 xn, .int .i64 xd, .int .i64 xe, .slice tb ts.length cb] 33) = V := ⟨_, rfl⟩
  have a1 : V.cell? ⟨w.heap.size, 11, none⟩ = some (.slice ta ts.length ca) := by rw [← hV]; exact cellAlloc _ (cellNew w _ _ 11 _ rfl)
  have a2 : V.cell? ⟨w.heap.size + 1, 11, none⟩ = some (.slice tb ts.length cb) := by rw [← hV]; exact cellNew3 (by simp) rfl
  have hVb : Below w.heap.size w V := by rw [← hV]; exact ((Below.refl _ _).alloc (Nat.le_refl _) _).alloc (by simp) _
  rw [hV]
  have HVB := Lib.hid hVb
  have HA1 := Lib.hid a1
  have HA2 := Lib.hid a2
  clear hV a1 a2 hVb he5
  go_loopw [5] (fun i wr => ∃ k : Nat, k ≤ ts.length ∧ i = .int .i64 (k : Int) ∧ Below V.heap.size V wr) (fun i _ => ts.length - (intOf i).toNat)
  case atStart => exact ⟨0, by omega, rfl, Below.refl _ _⟩
  case round =>
    obtain ⟨k, hk, rfl, hb⟩ := hrel
    have b1 := cell_under HA1.out hb
    have b2 := cell_under HA2.out hb
    have HB3 := Lib.hid (HVB.out.trans (hb.mono HVB.out.size))
    have HBK := Lib.hid hb
    clear hb
    by_cases hlt : k < ts.length
    · obtain ⟨ga, oa, rfl, f1, f2⟩ := termsIn_at (terms_below HA.out HB3.out) k hlt
      obtain ⟨gb, ob, rfl, f3, f4⟩ := termsIn_at (terms_below HB.out HB3.out) k hlt
      generalize ts[k] = y at f1 f2 f3 f4
      obtain ⟨y0, y1⟩ := y
      simp only at f1 f2 f3 f4
      have k1 : (k : Int) < ts.length := by omega
      go_wp2_with fail
      go_quiet (fail)
      go_wp2_with fail
      go_roundw
      case rel => exact ⟨k + 1, by omega, by go_num, below_drewQ HBK.out _⟩
      case measure => simp [intOf]; omega
    · obtain rfl : k = ts.length := by omega
      go_wp2_with fail
      go_ret
      exact ⟨rfl, HB3.out⟩
end Go.Proofs.YtiinppicdhidhaaDoor
