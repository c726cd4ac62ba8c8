/-
  A trie at a world: grow.
-/
import Derived.OwnWalk
import Derived.Laws.AppendOwn
import Derived.RangeFuncBox
import Derived.Test.YtaakaajcpjiccaaDoorNa24
import Derived.Test.YtaakaajcpjiccaaDoorNa27
set_option linter.unusedVariables false
set_option linter.unusedSimpArgs false
namespace Go.Proofs.YtaakaajcpjiccaaDoor
open Go.RowKit
open Go.Proofs

theorem info_node : (Tryd.prog.info? 84).map (fun i => (i.zero, i.size, i.bytes)) = some (some (.agg #[.map none, .int .i64 0]), 2, 16) := by kernel_rfl
theorem KidsAt.others {w w' : World} {mb : Nat} {kids : List (UInt8 × Nat)} (h : KidsAt w mb kids) (hk : KeepsOthers w w') : KidsAt w' mb kids := by
  obtain ⟨D, ⟨es, clock, hb, r⟩, r2⟩ := h
  exact ⟨D, ⟨es, clock, hk.same mb _ hb rfl, r⟩, r2⟩
set_option maxRecDepth 100000 in
set_option maxHeartbeats 2000000 in
theorem grow_any {B tp : Nat} {mbs : List Nat} {T : List NodeD} (w : World) (h : TrieAt w B tp mbs T) (hT : T.length < 100000) (htp : B ≤ tp) (hBw : B ≤ w.heap.size) : Calls Tryd.prog 41 #[.pointer (some ⟨tp, 0, none⟩)] w fun e w' => e = .returned (.int .i64 (T.length : Nat)) ∧ TrieAt w' B tp (mbs ++ [w.heap.size]) (T ++ [⟨[], none⟩]) ∧ Below B w w' ∧ KeepT [79, 84] w w' := by
  obtain ⟨i0, hi, hz0, hz1, hz2⟩ := info_parts info_node
  obtain ⟨a, c, hb, hown⟩ := h.box
  have hmm := @run_makeMap Tryd.prog
  have hbA := (heap_alloc_old w (.map #[] 0) (Array.getElem?_eq_some_iff.1 hb).1).trans hb
  have b0 := cellB hbA (j := 0) rfl
  have H := Lib.hid h
  clear h
  go_enter Tryd.func41, Tryd.ntmps41
  have c0 := cellB hb (j := 0) rfl
  go_wp2_with (at_builtin; refine wpList_append_own _ rfl _ _ 77 rfl B 84 i0 _ 2 16 Tryd.underlying77 hi hz0 hz1 hz2 rfl (by decide) (.slice a T.length c) T.length ((mbs.zip T).flatMap nodeV) rfl ((hown.alloc _).alloc _) ⟨w.heap.size + 1, 0, none⟩ 1 1 [.map (some w.heap.size), .int .i64 (-1)] rfl rfl ?c1 ?c2 ?c3 ?c4 ?c5 ?_)
  case c1 =>
    intro j u hj
    rw [addPlain]
    exact cellNew3 (by simp) (by rw [← hj]; rcases j with _ | _ | j <;> rfl)
  case c2 =>
    intro u hu
    simp only [List.mem_cons, List.not_mem_nil, or_false] at hu
    rcases hu with rfl | rfl <;> rfl
  case c3 => unfold maxLen; omega
  case c4 => omega
  case c5 => simp; omega
  intro v' w1 hown' hgrow hnn
  obtain ⟨g', cap', rfl⟩ := ownsRow_succ hown'
  have hbx : Boxed w tp 79 (.slice a T.length c) := hb
  obtain ⟨a1, a2, a3, a4, a5⟩ := Boxed.appended (hbx.alloc (.map #[] 0)) (by decide) (hown.alloc _) (by simp; omega) htp hown' hgrow
  have x1 := a1.cell
  have x2 := a1.frozen
  have HA := Lib.hid (And.intro a2 (And.intro a3 (And.intro a4 a5)))
  have HKT := Lib.hid (keepT_append (ts := [79, 84]) (hbx.alloc (.map #[] 0)) (hown.alloc _) (by decide) (by decide) hgrow (.slice (some ⟨g', 0, none⟩) (T.length + 1) cap'))
  have x3 := a2.cell
  clear a1 a2 a3 a4 a5 hown' hgrow b0 c0 hbA
  go_wp2_with fail
  go_ret
  obtain ⟨a2, a3, a4, a5⟩ := HA.out
  have hz : (mbs ++ [w.heap.size]).zip (T ++ [(⟨[], none⟩ : NodeD)]) = mbs.zip T ++ [(w.heap.size, ⟨[], none⟩)] := by
    rw [List.zip_append H.out.len]; rfl
  have hwA : KeepsOthers w (w.alloc (.map #[] 0)) := KeepsOthers.alloc _ _
  refine ⟨rfl, ⟨⟨_, cap', by rw [List.length_append]; exact a2, ?_⟩, by simp [H.out.len], ?_, ?_, by simp; omega⟩, ?_⟩
  · rw [hz, List.flatMap_append, List.length_append]
    exact a3
  · rw [List.pairwise_append]
    refine ⟨H.out.asc, List.pairwise_singleton _ _, fun x hx y hy => ?_⟩
    rw [List.mem_singleton] at hy
    subst hy
    obtain ⟨i, hi, rfl⟩ := List.getElem_of_mem hx
    have hz2 : i < (mbs.zip T).length := by rw [List.length_zip, ← H.out.len, Nat.min_self]; exact hi
    have := (H.out.kids _ (List.getElem_mem hz2)).lt
    rw [List.getElem_zip] at this
    exact this
  · intro p hp
    rw [hz, List.mem_append, List.mem_singleton] at hp
    rcases hp with hp | rfl
    · exact (H.out.kids p hp).others (hwA.trans a4)
    · exact (KidsAt.made w).others a4
  · exact ⟨((Below.refl B w).alloc hBw _).trans a5, (KeepT.below ((Below.refl _ _).alloc (Nat.le_refl _) _)).trans HKT.out⟩
end Go.Proofs.YtaakaajcpjiccaaDoor
