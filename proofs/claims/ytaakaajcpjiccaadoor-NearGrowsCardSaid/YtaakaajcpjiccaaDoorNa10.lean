/-
  slices.Clone at terms and prefixes: nil gives nil; else a new row with the same elements.
-/
import Derived.WalkKit
import Derived.WalkSpells
import Derived.WalkLawsBesides
import Derived.KernelRfl
import Derived.Test.YtaakaajcpjiccaaDoorProg
set_option linter.unusedVariables false
set_option linter.unusedSimpArgs false
namespace Go.Proofs.YtaakaajcpjiccaaDoor
open Go.RowKit
open Go.Proofs
theorem cellAlloc {w : World} {a : Addr} {v : Value} (o : Obj) (h : w.cell? a = some v) : (w.alloc o).cell? a = some v :=
  (((Below.refl w.heap.size w).alloc (Nat.le_refl _) o).cell (World.block_lt_of_cell? w a h)).trans h

theorem info_T : (Tryd.prog.info? 98).map (fun i => (i.zero, i.size, i.bytes)) = some (some (.agg #[.int .i64 0, .int .i64 0]), 2, 16) := by kernel_rfl
set_option maxHeartbeats 400000 in
theorem cloneT_nil (w : World) : Calls Tryd.prog 84 #[.slice none 0 0] w fun e w' => e = .returned (.slice none 0 0) ∧ w' = w := by
  have he := fun w => Lib.run_eql_slice_nil (P := Tryd.prog) w 122 98 none 0 0 0 0 Tryd.underlying122
  go_enter Tryd.func84, Tryd.ntmps84
  go_wp2
  go_ret
  exact ⟨rfl, rfl⟩
set_option maxHeartbeats 400000 in
theorem cloneT_some (w : World) (ad : Addr) (n c : Nat) (xs : List Value) (hl : xs.length = n * 2) (hxs : ∀ j u, xs[j]? = some u → w.cell? (ad.add j) = some u) (h1 : ∀ u ∈ xs, u.oneCell' = true) (hn : n ≤ 1000) :
    Calls Tryd.prog 84 #[.slice (some ad) n c] w fun e w' => (∃ v, e = .returned v ∧ w'.ownsRow w.heap.size 98 2 v n xs ∧ (∃ g m, v = .slice (some ⟨g, 0, none⟩) n m)) ∧ Below w.heap.size w w' := by
  have he := fun w => Lib.run_eql_slice_nil (P := Tryd.prog) w 122 98 (some ad) n c 0 0 Tryd.underlying122
  obtain ⟨i0, hi, hz0, hz1, hz2⟩ := info_parts info_T
  have hmk : ∀ w, (Instr.buildSlice 122 0 #[]).run Tryd.prog w = .ok (.slice (some ⟨w.heap.size, 0, none⟩) 0 0) (w.alloc (.cells #[] 98)) := fun _ => by kernel_rfl
  have hx2 : ∀ j u, xs[j]? = some u → (w.alloc (.cells #[] 98)).cell? (ad.add j) = some u := fun j u hu => cellAlloc _ (hxs j u hu)
  have hown : (w.alloc (.cells #[] 98)).ownsRow w.heap.size 98 2 (.slice (some ⟨w.heap.size, 0, none⟩) 0 0) 0 [] := World.ownsRow_made w #[] 0 (Nat.le_refl _) (by unfold maxLen; omega) (by simp)
  have hsz : w.heap.size ≤ (w.alloc (.cells #[] 98)).heap.size := by simp
  have HX : Hid (∀ j u, xs[j]? = some u → w.cell? (ad.add j) = some u) := hxs
  have HL : Hid (xs.length = n * 2) := hl
  have HX2 : Hid (∀ j u, xs[j]? = some u → (w.alloc (.cells #[] 98)).cell? (ad.add j) = some u) := hx2
  have H1 : Hid (∀ u ∈ xs, u.oneCell' = true) := h1
  clear hxs hl hx2 h1
  go_enter Tryd.func84, Tryd.ntmps84
  go_wp2_with (at_builtin; refine wpList_append_own _ rfl _ _ 122 rfl w.heap.size 98 i0 (.agg #[.int .i64 0, .int .i64 0]) 2 16 Tryd.underlying122 hi hz0 hz1 hz2 rfl (by decide) _ 0 [] rfl hown ad n c xs rfl HL.out HX2.out H1.out ?_ ?_ hsz ?_)
  · unfold maxLen; omega
  · omega
  · intro v' w1 hown' hgrow hnil
    go_wp2
    go_ret
    refine ⟨⟨v', rfl, hown', ?_⟩, ?_⟩
    · rcases hown'.2 with ⟨rfl, h0⟩ | ⟨g, cap, cur, hv, _⟩
      · exact (hnil rfl).elim
      · exact ⟨g, cap, hv⟩
    · exact (((Below.refl _ w).alloc (Nat.le_refl _) _).grown hgrow hsz (fun k hk => by simp [Value.ownBlock] at hk; omega))

theorem info_P : (Tryd.prog.info? 145).map (fun i => (i.zero, i.size, i.bytes)) = some (some (.agg #[.string ⟨#[]⟩, .string ⟨#[]⟩, .string ⟨#[]⟩, .string ⟨#[]⟩, .string ⟨#[]⟩, .int .i64 0]), 6, 88) := by kernel_rfl
set_option maxHeartbeats 400000 in
theorem cloneP_nil (w : World) : Calls Tryd.prog 82 #[.slice none 0 0] w fun e w' => e = .returned (.slice none 0 0) ∧ w' = w := by
  have he := fun w => Lib.run_eql_slice_nil (P := Tryd.prog) w 87 145 none 0 0 0 0 Tryd.underlying87
  go_enter Tryd.func82, Tryd.ntmps82
  go_wp2
  go_ret
  exact ⟨rfl, rfl⟩
set_option maxHeartbeats 400000 in
theorem cloneP_some (w : World) (ad : Addr) (n c : Nat) (xs : List Value) (hl : xs.length = n * 6) (hxs : ∀ j u, xs[j]? = some u → w.cell? (ad.add j) = some u) (h1 : ∀ u ∈ xs, u.oneCell' = true) (hn : n ≤ 1000) :
    Calls Tryd.prog 82 #[.slice (some ad) n c] w fun e w' => (∃ v, e = .returned v ∧ w'.ownsRow w.heap.size 145 6 v n xs ∧ (∃ g m, v = .slice (some ⟨g, 0, none⟩) n m)) ∧ Below w.heap.size w w' := by
  have he := fun w => Lib.run_eql_slice_nil (P := Tryd.prog) w 87 145 (some ad) n c 0 0 Tryd.underlying87
  obtain ⟨i0, hi, hz0, hz1, hz2⟩ := info_parts info_P
  have hmk : ∀ w, (Instr.buildSlice 87 0 #[]).run Tryd.prog w = .ok (.slice (some ⟨w.heap.size, 0, none⟩) 0 0) (w.alloc (.cells #[] 145)) := fun _ => by kernel_rfl
  have hx2 : ∀ j u, xs[j]? = some u → (w.alloc (.cells #[] 145)).cell? (ad.add j) = some u := fun j u hu => cellAlloc _ (hxs j u hu)
  have hown : (w.alloc (.cells #[] 145)).ownsRow w.heap.size 145 6 (.slice (some ⟨w.heap.size, 0, none⟩) 0 0) 0 [] := World.ownsRow_made w #[] 0 (Nat.le_refl _) (by unfold maxLen; omega) (by simp)
  have hsz : w.heap.size ≤ (w.alloc (.cells #[] 145)).heap.size := by simp
  have HX : Hid (∀ j u, xs[j]? = some u → w.cell? (ad.add j) = some u) := hxs
  have HL : Hid (xs.length = n * 6) := hl
  have HX2 : Hid (∀ j u, xs[j]? = some u → (w.alloc (.cells #[] 145)).cell? (ad.add j) = some u) := hx2
  have H1 : Hid (∀ u ∈ xs, u.oneCell' = true) := h1
  clear hxs hl hx2 h1
  go_enter Tryd.func82, Tryd.ntmps82
  go_wp2_with (at_builtin; refine wpList_append_own _ rfl _ _ 87 rfl w.heap.size 145 i0 (.agg #[.string ⟨#[]⟩, .string ⟨#[]⟩, .string ⟨#[]⟩, .string ⟨#[]⟩, .string ⟨#[]⟩, .int .i64 0]) 6 88 Tryd.underlying87 hi hz0 hz1 hz2 rfl (by decide) _ 0 [] rfl hown ad n c xs rfl HL.out HX2.out H1.out ?_ ?_ hsz ?_)
  · unfold maxLen; omega
  · omega
  · intro v' w1 hown' hgrow hnil
    go_wp2
    go_ret
    refine ⟨⟨v', rfl, hown', ?_⟩, ?_⟩
    · rcases hown'.2 with ⟨rfl, h0⟩ | ⟨g, cap, cur, hv, _⟩
      · exact (hnil rfl).elim
      · exact ⟨g, cap, hv⟩
    · exact (((Below.refl _ w).alloc (Nat.le_refl _) _).grown hgrow hsz (fun k hk => by simp [Value.ownBlock] at hk; omega))
end Go.Proofs.YtaakaajcpjiccaaDoor
