/-
  Parts: the contract.
-/
import Derived.Test.YteiialpecaebdaaDoorNs
set_option linter.unusedVariables false
set_option linter.unusedSimpArgs false
namespace Go.Proofs.YteiialpecaebdaaDoor
open Go.RowKit
open Go.Proofs
open Tree

theorem info_S : (Tryd.prog.info? 35).map (fun i => (i.zero, i.size, i.bytes)) = some (some (.agg #[.int .i64 0, .int .i64 0, .int .i64 0, .int .i64 0, .int .i64 0, .string ⟨#[]⟩]), 6, 56) := by kernel_rfl
theorem stepsL_one (t : List StepD) : ∀ u ∈ stepsL t, u.oneCell' = true := by
  intro u hu
  simp only [stepsL, List.mem_flatMap, stepL] at hu
  obtain ⟨x, _, hx⟩ := hu
  simp at hx
  rcases hx with rfl | rfl | rfl | rfl | rfl | rfl <;> rfl
abbrev Own (w : World) (B : Nat) (v : Value) (t : List StepD) : Prop := w.ownsRow B 35 6 v t.length (stepsL t)
def partsS (t l r : List StepD) : Prop := (soundB t = false ∧ l = [] ∧ r = []) ∨ (soundB t = true ∧ ∃ T : Tree, T.Wf ∧ t = T.ser ∧ l = T.left ∧ r = T.right)
def PartsR (w : World) (t : List StepD) (e : Ending) (w' : World) : Prop := ∃ vl vr l r, e = .returned (.tuple #[vl, vr]) ∧ partsS t l r ∧ Own w' w.heap.size vl l ∧ Own w' w.heap.size vr r ∧ Below w.heap.size w w'
theorem own_nil (w : World) (B : Nat) : Own w B (.slice none 0 0) [] := World.ownsRow_nil _ _ _ _
theorem cellsOf {w : World} {g o : Nat} {cs : List Value} (h : w.rangeAt g o cs) : ∀ j u, cs[j]? = some u → w.cell? ((⟨g, o, none⟩ : Addr).add j) = some u := fun j u hu => by
  rw [Addr.add_mid]
  exact h j u hu
theorem own_none (v : Value) : v.ownBlock = none ∨ v.ownBlock ≠ (Value.slice none 0 0).ownBlock := by
  cases h : v.ownBlock
  · exact .inl rfl
  · exact .inr (by simp [Value.ownBlock])
theorem left_len (T : Tree) : T.left.length + T.right.length < T.ser.length := by
  cases T <;> simp [left, right, ser]
set_option maxHeartbeats 1000000 in
theorem Parts_no (a : Option Addr) (c : Nat) (t : List StepD) (w : World) (hL : Laid w) (hS : SlAt w a t) (hl : t.length ≤ 1000) (hb : soundB t = false) :
    Calls Tryd.prog 20 #[.slice a t.length c] w (PartsR w t) := by
  have HL := Lib.hid hL
  have HS := Lib.hid hS
  clear hL hS
  go_enter Tryd.func20, Tryd.ntmps20
  go_wp2_with fail
  refine (sound_any a c t w HL.out HS.out hl).mono ?_
  rintro e w1 ⟨rfl, hb1⟩
  rw [hb]
  go_wp2_with fail
  go_ret2
  exact ⟨_, _, [], [], rfl, .inl ⟨hb, rfl, rfl⟩, own_nil _ _, own_nil _ _, hb1⟩
set_option maxHeartbeats 1000000 in
theorem Parts_yes (T : Tree) (hT : T.Wf) (g o c : Nat) (w : World) (hL : Laid w) (hr : w.rangeAt g o (stepsL T.ser)) (hl : T.ser.length ≤ 255) (hc : T.ser.length ≤ c) :
    Calls Tryd.prog 20 #[.slice (some ⟨g, o, none⟩) T.ser.length c] w (PartsR w T.ser) := by
  have hb : soundB T.ser = true := (soundB_iff _).2 ⟨hl, T, hT, rfl⟩
  have HS := Lib.hid (sound_any (some ⟨g, o, none⟩) c T.ser w hL (.inr ⟨g, o, rfl, hr⟩) (by omega))
  have HP : Hid (∀ w1, Below w.heap.size w w1 → Calls Tryd.prog 32 #[.slice (some ⟨g, o, none⟩) T.ser.length c] w1 (PartsOk w1 T)) := fun w1 h1 => parts_any g o c T w1 hT (rangeAt_below hr h1 (range_lt hr (ser_ne T))) hc (by omega)
  clear hL hr
  obtain ⟨i0, hi, hz0, hz1, hz2⟩ := info_parts info_S
  go_enter Tryd.func20, Tryd.ntmps20
  go_wp2_with fail
  refine HS.out.mono ?_
  rintro e w1 ⟨rfl, hb1⟩
  rw [hb]
  go_wp2_with fail
  refine (HP.out w1 hb1).mono ?_
  rintro e w2 ⟨l, r, rfl, hb2, hl2, hr2⟩
  have HB : Hid (Below w.heap.size w w2) := bel2 hb1 hb2
  clear hb1 hb2
  have hpart : partsS T.ser T.left T.right := .inr ⟨hb, T, hT, rfl, rfl, rfl⟩
  have hll := left_len T
  have hsz := HB.out.size
  have HPS := Lib.hid hpart
  clear hpart
  rcases hl2 with ⟨hle, rfl⟩ | ⟨g1, o1, c1, rfl, h10, h1c, h1r⟩
  · rcases hr2 with ⟨hre, rfl⟩ | ⟨g2, o2, c2, rfl, h20, h2c, h2r⟩
    · go_wp2_with fail
      go_ret2
      exact ⟨_, _, T.left, T.right, rfl, HPS.out, by rw [hle]; exact own_nil _ _, by rw [hre]; exact own_nil _ _, HB.out⟩
    · have HR := Lib.hid h2r
      clear h2r
      go_wp2_with (at_builtin; refine wpList_append_own _ rfl _ _ 27 rfl w.heap.size 35 i0 _ 6 56 Tryd.underlying27 hi hz0 hz1 hz2 rfl (by decide) _ 0 [] rfl (own_nil _ _) ⟨g2, o2, none⟩ T.right.length c2 (stepsL T.right) rfl (stepsL_length _) (cellsOf HR.out) (stepsL_one _) ?_ ?_ ?_ ?_)
      · unfold maxLen; omega
      · omega
      · exact hsz
      · intro v1 w3 hown hgrow hnil
        go_wp2_with fail
        go_ret2
        exact ⟨_, _, T.left, T.right, rfl, HPS.out, by rw [hle]; exact own_nil _ _, hown, HB.out.grown hgrow hsz (fun k hk => by simp [Value.ownBlock] at hk)⟩
  · have HL := Lib.hid h1r
    clear h1r
    rcases hr2 with ⟨hre, rfl⟩ | ⟨g2, o2, c2, rfl, h20, h2c, h2r⟩
    · go_wp2_with (at_builtin; refine wpList_append_own _ rfl _ _ 27 rfl w.heap.size 35 i0 _ 6 56 Tryd.underlying27 hi hz0 hz1 hz2 rfl (by decide) _ 0 [] rfl (own_nil _ _) ⟨g1, o1, none⟩ T.left.length c1 (stepsL T.left) rfl (stepsL_length _) (cellsOf HL.out) (stepsL_one _) ?_ ?_ ?_ ?_)
      · unfold maxLen; omega
      · omega
      · exact hsz
      · intro v1 w3 hown hgrow hnil
        go_wp2_with fail
        go_ret2
        exact ⟨_, _, T.left, T.right, rfl, HPS.out, hown, by rw [hre]; exact own_nil _ _, HB.out.grown hgrow hsz (fun k hk => by simp [Value.ownBlock] at hk)⟩
    · have HR := Lib.hid h2r
      clear h2r
      go_wp2_with (at_builtin; refine wpList_append_own _ rfl _ _ 27 rfl w.heap.size 35 i0 _ 6 56 Tryd.underlying27 hi hz0 hz1 hz2 rfl (by decide) _ 0 [] rfl (own_nil _ _) ⟨g1, o1, none⟩ T.left.length c1 (stepsL T.left) rfl (stepsL_length _) (cellsOf HL.out) (stepsL_one _) ?_ ?_ ?_ ?_)
      · unfold maxLen; omega
      · omega
      · exact hsz
      · intro v1 w3 hown hgrow hnil
        have hb3 : Below w2.heap.size w2 w3 := (Below.refl w2.heap.size w2).grown hgrow (Nat.le_refl _) (fun k hk => by simp [Value.ownBlock] at hk)
        have hsz3 := hgrow.size
        have h2r3 := rangeAt_below HR.out hb3 (range_lt HR.out (by
          intro e
          have h1 := congrArg List.length e
          rw [stepsL_length] at h1
          simp only [List.length_nil] at h1
          omega))
        replace HR := Lib.hid h2r3
        clear h2r3
        go_wp2_with (at_builtin; refine wpList_append_own _ rfl _ _ 27 rfl w.heap.size 35 i0 _ 6 56 Tryd.underlying27 hi hz0 hz1 hz2 rfl (by decide) _ 0 [] rfl (own_nil _ _) ⟨g2, o2, none⟩ T.right.length c2 (stepsL T.right) rfl (stepsL_length _) (cellsOf HR.out) (stepsL_one _) ?_ ?_ ?_ ?_)
        · unfold maxLen; omega
        · omega
        · omega
        · intro v2 w4 hown4 hgrow4 hnil4
          go_wp2_with fail
          go_ret2
          exact ⟨_, _, T.left, T.right, rfl, HPS.out, hown.kept hgrow4 (own_none _), hown4, (HB.out.grown hgrow hsz (fun k hk => by simp [Value.ownBlock] at hk)).grown hgrow4 (Nat.le_trans hsz hsz3) (fun k hk => by simp [Value.ownBlock] at hk)⟩
theorem Parts_any (a : Option Addr) (c : Nat) (t : List StepD) (w : World) (hL : Laid w) (hS : SlAt w a t) (hl : t.length ≤ 1000) (hc : t.length ≤ c) :
    Calls Tryd.prog 20 #[.slice a t.length c] w (PartsR w t) := by
  cases hb : soundB t
  · exact Parts_no a c t w hL hS hl hb
  · obtain ⟨h255, T, hT, rfl⟩ := (soundB_iff t).1 hb
    obtain ⟨g, o, rfl, hr⟩ : ∃ g o, a = some ⟨g, o, none⟩ ∧ w.rangeAt g o (stepsL T.ser) := by
      rcases hS with h | h
      · have := T.ser_pos; rw [h] at this; cases this
      · exact h
    exact Parts_yes T hT g o c w hL hr h255 hc
end Go.Proofs.YteiialpecaebdaaDoor
