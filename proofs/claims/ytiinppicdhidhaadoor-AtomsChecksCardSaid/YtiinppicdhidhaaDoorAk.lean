/-
  The law's own: awake.
-/
import Derived.Test.YtiinppicdhidhaaDoorTv
set_option linter.unusedVariables false
set_option linter.unusedSimpArgs false
namespace Go.Proofs.YtiinppicdhidhaaDoor
open Go.RowKit
open Go.Proofs

theorem Check_any (n m : Nat) (a : Option Addr) (c : Nat) (t : List AtomD) (T : Nat → List (Int × Int)) (a2 : Option Addr) (c2 : Nat) (p : List PrefD) (w : World) (hn : t.length = n) (hm : p.length = m) (hT : TabIn w a t T a2 p) (hN : NotesAt w) (hF : TensAt w) (hl : n ≤ 10000) (hp : m ≤ 10000) :
    Calls Tryd.prog 14 #[.agg #[.slice a n c, .slice a2 m c2]] w fun e w' => e = .returned (.int .i64 (checkS t T p)) ∧ Below w.heap.size w w' := by
  subst hn
  subst hm
  exact callsIn_wide.1 (check_in a c t T a2 c2 p w hT hN hF hl hp)
theorem notes_below {w w' : World} (h : NotesAt w) (hb : Below w.heap.size w w') : NotesAt w' := fun i hi => cell_under (h i hi) hb
theorem TableAt.below {B : Nat} {w w' : World} {va vp : Value} {ss : Nat → Value} (h : TableAt B w va vp ss) (hb : Below w.heap.size w w') : TableAt B w' va vp ss :=
  ⟨ownBelow h.atoms hb, ownBelow h.pres hb, fun i hi => (h.terms i hi).below hb⟩
theorem range_under {w w' : World} {g o : Nat} {cs : List Value} (h : w.rangeAt g o cs) (hb : Below w.heap.size w w') : w'.rangeAt g o cs := fun j v hj => cell_under (h j v hj) hb
set_option maxRecDepth 100000 in
set_option maxHeartbeats 1000000 in
theorem awake_any (w : World) (hL : Laid w) (hN : NotesAt w) (hF : TensAt w) : Calls Tryd.prog 8 #[] w fun e w' => e = .returned (.bool true) ∧ Below w.heap.size w w' := by
  have HL := Lib.hid hL
  have HN := Lib.hid hN
  have HF := Lib.hid hF
  clear hL hN hF
  go_enter Tryd.func8, Tryd.ntmps8
  go_wp2_with fail
  refine (tab_ok _ HL.out).mono ?_
  intro e w1 h1
  obtain ⟨g, c1, a2, c2, ss, rfl, hr, hg, ht, hb⟩ := h1
  have hb1 := hb.alloc hb.size (.cells #[.slice (some ⟨g, 0, none⟩) 48 c1, .slice a2 20 c2] 27)
  have hlg : g < w1.heap.size := (ht.atoms.lt g rfl).2
  have HR := Lib.hid hr
  have HT := Lib.hid ht
  have HB1 := Lib.hid hb1
  clear hr ht hb hb1 hg
  go_wp2_with fail
  have hW : Below w1.heap.size w1 (w1.alloc (.cells #[.slice (some ⟨g, 0, none⟩) 48 c1, .slice a2 20 c2] 27)) := (Below.refl _ _).alloc (Nat.le_refl _) _
  refine (Check_any 48 20 _ c1 (tabD ss) tabT a2 c2 presD _ (tabD_length ss) presD_length ((tab_in0 HR.out HT.out).below hW) (notes_below HN.out HB1.out) (tens_below HF.out HB1.out) (by omega) (by omega)).mono ?_
  rintro e w2 ⟨rfl, hb2⟩
  rw [check_tab]
  have hB2 := HB1.out.trans (hb2.mono HB1.out.size)
  have hT2 := (HT.out.below hW).below hb2
  have c0 := cell_under (cellNew w1 #[.slice (some ⟨g, 0, none⟩) 48 c1, .slice a2 20 c2] 27 0 _ rfl) hb2
  have c1' := cell_under (cellNew w1 #[.slice (some ⟨g, 0, none⟩) 48 c1, .slice a2 20 c2] 27 1 _ rfl) hb2
  have hs2 := hb2.size
  simp only [World.size_alloc] at hs2
  have hg12 : w2.cell? ⟨g, 12, none⟩ = some (.string ⟨(codeAt 1 0).toArray⟩) := cell_under (cellAlloc _ (by
    have := atomD_range HR.out 1 (by rw [tabD_length]; omega) 0 (.string ⟨(codeAt 1 0).toArray⟩) (by rw [tabD_get]; rfl)
    simpa using this)) hb2
  have hf12 : w2.frozen? ⟨g, 12, none⟩ = false := hT2.atoms.frozenAt 12
  have HB2 := Lib.hid hB2
  have HT2 := Lib.hid hT2
  have hgw : w.heap.size ≤ g := (hT2.atoms.lt g rfl).1
  clear hb2 hB2 hT2 hW
  go_wp2_with fail
  have hb3 := HB2.out.setCell (p := ⟨g, 12, none⟩) hgw (.string ⟨#[109]⟩)
  refine (Check_any 48 20 _ c1 (tabM ss) tabT a2 c2 presD _ (tabM_length ss) presD_length (tab_inM HT2.out) (notes_below HN.out hb3) (tens_below HF.out hb3) (by omega) (by omega)).mono ?_
  rintro e w3 ⟨rfl, hb4⟩
  rw [check_tabM]
  have hB4 := Lib.hid (hb3.trans (hb4.mono (by simp; omega)))
  clear hb3 hb4
  go_wp2_with fail
  go_ret
  exact ⟨rfl, hB4.out⟩
end Go.Proofs.YtiinppicdhidhaaDoor
