/-
  atoms.code: whether a text is empty, or a code of a notation.
-/
import Derived.Test.YtiinppicdhidhaaDoorWh
import Derived.Laws.RangeString
import Derived.Laws.RangeAny
import Derived.Laws.Runes
import Derived.Deep.LoopGhost
set_option linter.unusedVariables false
set_option linter.unusedSimpArgs false
namespace Go.Proofs.YtiinppicdhidhaaDoor
open Go.RowKit
open Go.Proofs

abbrev marks : ByteArray := ⟨#[37, 39, 95, 91, 93]⟩
theorem marks_low : ∀ p (h : p < marks.size), (marks[p]'h).toNat < 128 := by decide
set_option maxRecDepth 100000 in
set_option maxHeartbeats 2000000 in
theorem rune_bad (w : World) : Calls Tryd.prog 46 #[.string marks, .int .i32 65533] w fun e w' => e = .returned (.int .i64 (-1)) ∧ Below w.heap.size w w' := by
  go_enter Tryd.func46, Tryd.ntmps46
  go_wp2_with fail
  go_loopg [] 5 (fun r w' => ∃ pos : Nat, pos ≤ 5 ∧ r = 5 - pos ∧ w' = w.iter marks pos)
  case atStart => exact ⟨0, by omega, rfl, rfl⟩
  case round =>
    obtain ⟨pos, hle, hgk, rfl⟩ := hrel
    have HGK := Lib.hid hgk
    clear hgk
    by_cases hp : pos < 5
    · have hp2 : pos < marks.size := hp
      have ha : (marks[pos]'hp2).toNat < 128 := marks_low pos hp2
      have hnx : ∀ ty, (Instr.next (.pointer (some ⟨w.heap.size, 0, none⟩)) true ty).run Tryd.prog (w.iter marks pos) = _ := fun ty => run_next_ascii w marks pos ty hp2 ha
      have hne : (((marks[pos]'hp2).toNat : Int) == 65533) = false := by simp; omega
      go_wp2_with fail
      go_roundg (5 - (pos + 1))
      case measure => have := HGK.out; omega
      case rel => exact ⟨pos + 1, by omega, rfl, rfl⟩
    · obtain rfl : pos = 5 := by omega
      have hnx : ∀ ty, (Instr.next (.pointer (some ⟨w.heap.size, 0, none⟩)) true ty).run Tryd.prog (w.iter marks 5) = _ := fun ty => run_next_end w marks 5 ty (by decide)
      go_wp2_with fail
      go_ret
      exact ⟨rfl, (Below.refl _ _).alloc (Nat.le_refl _) _⟩
theorem index_none (l : List UInt8) (c : UInt8) (h : ∀ b ∈ l, b ≠ c) : Lib.indexByte l c = -1 := by
  induction l with
  | nil => rfl
  | cons b l ih =>
    have h1 : (b == c) = false := by simpa using h b (by simp)
    rw [Lib.indexByte, h1, ih (fun x hx => h x (by simp [hx]))]
    rfl
theorem ibyte_high (s : ByteArray) (c : Int) (hc : 128 ≤ c) (hc2 : c < 256) (hs : ∀ b ∈ s.data.toList, b.toNat < 128) (w : World) : Calls Tryd.prog 55 #[.string s, .int .u8 c] w fun e w' => e = .returned (.int .i64 (-1)) ∧ w' = w :=
  (Tryd.strings_IndexByte s c w).mono fun e w' ⟨he, hw⟩ => ⟨by
    rw [he, index_none _ _ (fun b hb e => by
      have h1 := hs b hb
      rw [e] at h1
      simp at h1
      omega)], hw⟩
theorem valid_of (r : Int) (h : Lib.validRune r = true) : Utf8.valid r = true := by
  simp [Lib.validRune] at h
  simp [Utf8.valid]
  omega
set_option maxRecDepth 100000 in
set_option maxHeartbeats 2000000 in
theorem rune_high (r : Int) (w : World) (h1 : 128 ≤ r) (h2 : r ≤ 1114111) (hb : r ≠ 65533) : Calls Tryd.prog 46 #[.string marks, .int .i32 r] w fun e w' => e = .returned (.int .i64 (-1)) ∧ Below w.heap.size w w' := by
  have hbb : (r == 65533) = false := by simpa using hb
  have hd : decide (r < 128) = false := by simp; omega
  by_cases hv : Lib.validRune r = true
  · obtain ⟨s1, s2, s3⟩ := encode_facts r (valid_of r hv) h1
    go_enter Tryd.func46, Tryd.ntmps46
    go_wp2_with fail
    refine (Tryd.utf8_ValidRune r _).mono ?_
    rintro e w' ⟨rfl, hw⟩
    subst w'
    rw [hv]
    clear hv hb
    have cv : ∀ w, (convert 21 9 (.int .i32 r)).run Tryd.prog w = .ok (.string (Utf8.encode r)) w := fun w => run_convert_int_string w 21 9 .i32 r (by rw [Tryd.underlying21]; rfl) Tryd.underlying9
    generalize Utf8.encode r = rs at s1 s2 s3 cv
    have hsz : rs.size = 2 ∨ rs.size = 3 ∨ rs.size = 4 := by omega
    rcases hsz with hsz | hsz | hsz
    · have hlt : 1 < rs.size := by rw [hsz]; decide
      have hc : 128 ≤ (rs[1]'hlt).toNat := by have := s3 (by omega); simpa [hsz] using this
      have hm : marks[1].toNat < 128 := by decide
      have hne : ((marks[1].toNat : Int) != ((rs[1]'hlt).toNat : Int)) = true := by simp; omega
      have hcb : 128 ≤ ((rs[1]'hlt).toNat : Int) := by omega
      have hcb2 : ((rs[1]'hlt).toNat : Int) < 256 := by have := (rs[1]'hlt).toNat_lt; omega
      clear s1 s2 s3 hc hm
      go_wp2_with fail
      go_step3
      go_wp2_with fail
      refine wp_loop_rounds 1 ?_
      rw [rounds_succ]
      go_wp2_with fail
      go_step3
      go_wp2_with fail
      go_quiet (fail)
      have HBD : Hid (Below w.heap.size w (w.drewN nq)) := below_drewN (Below.refl _ _) nq
      generalize w.drewN nq = w1 at HBD ⊢
      go_wp2_with fail
      go_quiet ((go_at_call 55; exact Calls.quiet_of_same (ibyte_high _ _ hcb hcb2 (by decide) _)))
      go_wp2_with fail
      rw [Exit.noGoto_ret]
      go_wp2_with fail
      rw [Exit.noGoto_ret]
      go_wp2_with fail
      go_ret
      exact ⟨rfl, below_drewN HBD.out _⟩
    · have hlt : 2 < rs.size := by rw [hsz]; decide
      have hc : 128 ≤ (rs[2]'hlt).toNat := by have := s3 (by omega); simpa [hsz] using this
      have hm : marks[2].toNat < 128 := by decide
      have hne : ((marks[2].toNat : Int) != ((rs[2]'hlt).toNat : Int)) = true := by simp; omega
      have hcb : 128 ≤ ((rs[2]'hlt).toNat : Int) := by omega
      have hcb2 : ((rs[2]'hlt).toNat : Int) < 256 := by have := (rs[2]'hlt).toNat_lt; omega
      clear s1 s2 s3 hc hm
      go_wp2_with fail
      go_step3
      go_wp2_with fail
      refine wp_loop_rounds 1 ?_
      rw [rounds_succ]
      go_wp2_with fail
      go_step3
      go_wp2_with fail
      go_quiet (fail)
      have HBD : Hid (Below w.heap.size w (w.drewN nq)) := below_drewN (Below.refl _ _) nq
      generalize w.drewN nq = w1 at HBD ⊢
      go_wp2_with fail
      go_quiet ((go_at_call 55; exact Calls.quiet_of_same (ibyte_high _ _ hcb hcb2 (by decide) _)))
      go_wp2_with fail
      rw [Exit.noGoto_ret]
      go_wp2_with fail
      rw [Exit.noGoto_ret]
      go_wp2_with fail
      go_ret
      exact ⟨rfl, below_drewN HBD.out _⟩
    · have hlt : 3 < rs.size := by rw [hsz]; decide
      have hc : 128 ≤ (rs[3]'hlt).toNat := by have := s3 (by omega); simpa [hsz] using this
      have hm : marks[3].toNat < 128 := by decide
      have hne : ((marks[3].toNat : Int) != ((rs[3]'hlt).toNat : Int)) = true := by simp; omega
      have hcb : 128 ≤ ((rs[3]'hlt).toNat : Int) := by omega
      have hcb2 : ((rs[3]'hlt).toNat : Int) < 256 := by have := (rs[3]'hlt).toNat_lt; omega
      clear s1 s2 s3 hc hm
      go_wp2_with fail
      go_step3
      go_wp2_with fail
      refine wp_loop_rounds 1 ?_
      rw [rounds_succ]
      go_wp2_with fail
      go_step3
      go_wp2_with fail
      go_quiet (fail)
      have HBD : Hid (Below w.heap.size w (w.drewN nq)) := below_drewN (Below.refl _ _) nq
      generalize w.drewN nq = w1 at HBD ⊢
      go_wp2_with fail
      go_quiet ((go_at_call 55; exact Calls.quiet_of_same (ibyte_high _ _ hcb hcb2 (by decide) _)))
      go_wp2_with fail
      rw [Exit.noGoto_ret]
      go_wp2_with fail
      rw [Exit.noGoto_ret]
      go_wp2_with fail
      go_ret
      exact ⟨rfl, below_drewN HBD.out _⟩
  · have hv' : Lib.validRune r = false := by simpa using hv
    go_enter Tryd.func46, Tryd.ntmps46
    go_wp2_with fail
    refine (Tryd.utf8_ValidRune r _).mono ?_
    rintro e w' ⟨rfl, hw⟩
    subst w'
    rw [hv']
    go_wp2_with fail
    go_ret
    exact ⟨rfl, Below.refl _ _⟩
end Go.Proofs.YtiinppicdhidhaaDoor
