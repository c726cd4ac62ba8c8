/-
  The iterators over steps and over notes at whatever slice, one of no steps too.
-/
import Derived.Test.YteiialpecaebdaaDoorLe
set_option linter.unusedVariables false
set_option linter.unusedSimpArgs false
namespace Go.Proofs.YteiialpecaebdaaDoor
open Go.RowKit
open Go.Proofs
open Go.Shelf
attribute [local go_sem] Oper.semAt_some

set_option maxRecDepth 100000 in
set_option maxHeartbeats 1000000 in
theorem steps1_nil (F : Fence) (n : Nat) (hf : F.fn 44) (hro : F.round = none) (l Bs : Nat) (pb : Value) (a : Option Addr) (cap : Nat) (J : List (Nat × StepD) → World → Prop) (W : World) (hBs : W.cell? ⟨Bs, 0, none⟩ = some (.slice a 0 cap)) (h0 : J [] W) :
    CallsIn F n Tryd.prog 44 #[.func (.yield l) #[] #[], .pointer (some ⟨Bs, 0, none⟩), pb] W fun e W' => (∃ v, e = .returned v) ∧ J [] W' := by
  refine callsIn_of_wp Tryd.func44 rfl hf ?_ hro
  simp only [Tryd.ntmps44, List.size_toArray, List.length_cons, List.length_nil, Nat.reduceAdd, Nat.reduceSub, Array.replicate_succ, Array.replicate_zero, List.push_toArray, List.append_toArray, List.nil_append, List.cons_append]
  gi_wp2
  gi_loopw [11] (fun i wr => i = .int .i64 0 ∧ J [] wr) (fun _ _ => 0)
  case atStart => exact ⟨rfl, h0⟩
  case round =>
    obtain ⟨rfl, hJs⟩ := hrel
    gi_wp2
    go_end0
    exact ⟨⟨_, rfl⟩, hJs⟩
/-- A slice of steps at a world: of none, or in a block below the heap's end that is none of the boxes bx. -/
def SlBx (w : World) (bx : List Nat) (a : Option Addr) (t : List StepD) : Prop := t = [] ∨ ∃ b off, a = some ⟨b, off, none⟩ ∧ w.rangeAt b off (stepsL t) ∧ b ∉ bx ∧ b < w.heap.size
theorem steps_any (F : Fence) (n : Nat) (hf : F.fn 44) (hro : F.round = none) (hn : 1 ≤ n) (Bs Bo : Nat) (bx : List Nat) (a : Option Addr) (cap : Nat) (t : List StepD) (ks : List Int) (hlen : t.length ≤ 1000) (hkl : ks.length ≤ 2) (w : World)
    (hBs : w.cell? ⟨Bs, 0, none⟩ = some (.slice a t.length cap)) (hS : SlBx w bx a t) (hops : ∃ gb, w.cell? ⟨Bo, 0, none⟩ = some (.slice (some ⟨gb, 0, none⟩) ks.length ks.length) ∧ (∀ m, m < ks.length → w.cell? ⟨gb, m, none⟩ = some (.int .i64 (ks[m]?.getD 0))) ∧ gb ∉ bx) (hbo : Bo ∉ bx) :
    SeqW F n Tryd.prog 44 #[.pointer (some ⟨Bs, 0, none⟩), .pointer (some ⟨Bo, 0, none⟩)] encS (KeepC bx) (fun ys => ys = selS ks t t.length) (fun pre => ∃ k, k ≤ t.length ∧ pre = selS ks t k) (selS ks t t.length).length w := by
  rcases hS with rfl | ⟨b, off, rfl, h2, h3, h4⟩
  · intro l J Jx W hW _ _ _ _ h0
    exact (steps1_nil F n hf hro l Bs _ a cap J W (cell_below hBs hW) h0).mono fun e W' ⟨he, hj⟩ => ⟨he, .inl ⟨_, rfl, hj⟩⟩
  · exact steps_seq F n hf hro hn Bs Bo bx t ks hlen hkl w ⟨⟨b, off, cap, hBs, h2, h3, h4⟩, hops, hbo⟩
set_option maxRecDepth 100000 in
set_option maxHeartbeats 4000000 in
theorem notes1_any (n : Nat) (hn : 5 ≤ n) (l Bt cap B0 : Nat) (sa : Option Addr) (bx : List Nat) (t : List StepD) (hlen : t.length ≤ 1000)
    (J Jx : List ByteArray → World → Prop) (W : World) (hB0 : B0 ≤ W.heap.size) (hbx : ∀ x ∈ bx, x < W.heap.size) (hJ : OwnFrom W.heap.size J) (hJx : OwnFrom W.heap.size Jx)
    (hY : ∀ pre x W1, J pre W1 → pre.length < (selT t t.length).length → YieldAt Fence.wide (n - 1) Tryd.prog l (encT x) W1 fun e W' =>
      (e = .returned (.bool true) ∧ J (pre ++ [x]) W' ∧ (KeepC bx W1 W' ∧ KeepsFrom B0 W1 W')) ∨ (e = .returned (.bool false) ∧ Jx (pre ++ [x]) W' ∧ KeepC bx W1 W' ∧ KeepsFrom B0 W1 W'))
    (hBt : W.cell? ⟨Bt, 0, none⟩ = some (.slice sa t.length cap)) (hr : SlBx W bx sa t) (h0 : J [] W) :
    CallsIn Fence.wide n Tryd.prog 31 #[.func (.yield l) #[] #[], .pointer (some ⟨Bt, 0, none⟩)] W fun e W' => (∃ v, e = .returned v) ∧
      ((∃ ys, ys = selT t t.length ∧ J ys W') ∨ (∃ pre, (∃ k, k ≤ t.length ∧ pre = selT t k) ∧ Jx pre W')) := by
  have HR := Lib.hid hr
  have HJ := Lib.hid hJ
  have HJX := Lib.hid hJx
  have HY := Lib.hid hY
  have HBX := Lib.hid hbx
  clear hr hJ hJx hY hbx
  have hBt2 := cellAlloc (.cells #[.func (.yield l) #[] #[]] 61) hBt
  refine callsIn_of_wp_marks Tryd.func31 rfl trivial ?_ rfl
  simp only [Tryd.ntmps31, List.size_toArray, List.length_cons, List.length_nil, Nat.reduceAdd, Nat.reduceSub, Array.replicate_succ, Array.replicate_zero, List.push_toArray, List.append_toArray, List.nil_append, List.cons_append]
  gi_wp2
  refine ⟨trivial, fun _ => by omega, ?_⟩
  refine (steps_in Fence.wide (n - 1) trivial rfl _ _ _ _ _ _ _).mono ?_
  rintro e w' ⟨rfl, rfl⟩
  gi_wp2
  obtain ⟨V, hV⟩ : ∃ V, (((W.alloc (.cells #[.func (.yield l) #[] #[]] 61)).alloc (.cells #[.int .i64 6, .int .i64 7] 3)).alloc (.cells #[.slice sa t.length cap] 27)).alloc (.cells #[.slice (some ⟨W.heap.size + 1, 0, none⟩) 2 2] 22) = V := ⟨_, rfl⟩
  rw [hV]
  have hsz : V.heap.size = W.heap.size + 4 := by rw [← hV]; simp
  have hWV : Below W.heap.size W V := by rw [← hV]; exact (((Below.refl _ W).alloc (Nat.le_refl _) _).alloc (by simp) _).alloc (by simp; omega) _ |>.alloc (by simp; omega) _
  have nb : ∀ k, W.heap.size ≤ k → k ∉ bx := fun k hk h => by have := HBX.out k h; omega
  have cBy : V.cell? ⟨W.heap.size, 0, none⟩ = some (.func (.yield l) #[] #[]) := by rw [← hV]; exact cellAlloc _ (cellAlloc _ (cellAlloc _ (cellNew W _ _ 0 _ rfl)))
  have hBsV : V.cell? ⟨W.heap.size + 1 + 1, 0, none⟩ = some (.slice sa t.length cap) := by rw [← hV]; exact cellAlloc _ (cellNew3 (by simp) rfl)
  have hSV : SlBx V bx sa t := by
    rcases HR.out with h | ⟨b, off, h1, h2, h3, h4⟩
    · exact .inl h
    · exact .inr ⟨b, off, h1, rangeAt_below h2 hWV h4, h3, by omega⟩
  have hOV : ∃ gb, V.cell? ⟨W.heap.size + 1 + 1 + 1, 0, none⟩ = some (.slice (some ⟨gb, 0, none⟩) 2 2) ∧ (∀ m, m < ([6, 7] : List Int).length → V.cell? ⟨gb, m, none⟩ = some (.int .i64 (([6, 7] : List Int)[m]?.getD 0))) ∧ gb ∉ bx := by
    refine ⟨W.heap.size + 1, ?_, fun m hm => ?_, nb _ (by omega)⟩
    · rw [← hV]; exact cellNew3 (by simp) rfl
    · have hm2 : m = 0 ∨ m = 1 := by simp at hm; omega
      rw [← hV]
      rcases hm2 with rfl | rfl
      · exact cellAlloc _ (cellAlloc _ (cellNew3 (by simp) rfl))
      · exact cellAlloc _ (cellAlloc _ (cellNew3 (by simp) rfl))
  have hWV4 := hsz
  refine range_wide (F := Fence.wide) rfl (by omega) (gf := 44) (lb := #[.pointer (some ⟨W.heap.size + 1 + 1, 0, none⟩), .pointer (some ⟨W.heap.size + 1 + 1 + 1, 0, none⟩)]) rfl trivial (enters_of Tryd.func44 (by kernel_rfl) rfl)
    ((steps_any Fence.wide (n - 1) trivial rfl (by omega) _ _ bx sa cap t [6, 7] hlen (by simp) V hBsV hSV hOV (nb _ (by omega))).kp (Kp' := fun A C => KeepC bx A C ∧ KeepsFrom (V.heap.size + 2) A C) (fun _ _ h => h.1))
    (fun h k => ⟨h.1.trans k.1, h.2.trans k.2⟩)
    (fun X o o' h hc => ⟨KeepC.putObj o' h hc, KeepsFrom.of_grownBy (grownBy_putObj' X _ o') (fun j e => by cases e; omega)⟩)
    (Below.refl _ _) (fun _ => rfl)
    (fun pre X => J (pre.map txtOf) X ∧ X.cell? ⟨W.heap.size, 0, none⟩ = some (.func (.yield l) #[] #[]))
    (fun c pre X => c = .ret ∧ Jx (pre.map txtOf) X)
    (fun s A C row hs hg hr => ⟨HJ.out _ A C row hs.1 hg (fun r e => ⟨by have := (hr r e).1; omega, (hr r e).2⟩), cell_kept hs.2 hg (fun r e => (hr r e).2)⟩)
    (fun c s A C row hs hg hr => ⟨hs.1, HJX.out _ A C row hs.2 hg (fun r e => ⟨by have := (hr r e).1; omega, (hr r e).2⟩)⟩)
    ⟨by rw [← hV]; exact HJ.out.alloc _ (HJ.out.alloc _ (HJ.out.alloc _ (HJ.out.alloc _ h0))), cBy⟩
    (fun x a' X => ∃ bb, X.cell? ⟨bb, 5, none⟩ = some (.string x.2.text) ∧ a' = { tmps := #[.func (.yield l) #[] #[], .pointer (some ⟨Bt, 0, none⟩), .pointer (some ⟨W.heap.size, 0, none⟩), undef, .pointer (some ⟨bb, 0, none⟩), .slice sa t.length cap, .slice (some ⟨W.heap.size + 1, 0, none⟩) 2 2, .func (.func 44) #[] #[.pointer (some ⟨W.heap.size + 1 + 1, 0, none⟩), .pointer (some ⟨W.heap.size + 1 + 1 + 1, 0, none⟩)], .int .i64 (x.1 : Int), .agg (stepL x.2).toArray, undef, undef, undef, undef, undef], defers := [] })
    (fun x a' s A C row ⟨bb, h1, h2⟩ hg hr => ⟨bb, cell_kept h1 hg (fun r e => (hr r e).2), h2⟩) ?assign ?body ?done ?stop
  case assign =>
    rintro l2 pre ⟨i, ⟨xo, xp, xa, xn, xm, xt⟩⟩ X K ⟨hj, hcy⟩ hK
    simp only [encS, stepArr] at hK ⊢
    gi_wp2
    exact hK _ _ ((KeepsOthers.alloc _ _).from _) ⟨(KeepC.refl _ _).alloc _, (KeepsOthers.alloc _ _).from _⟩ ⟨HJ.out.alloc _ hj, cellAlloc _ hcy⟩ ⟨X.heap.size, cellNew X _ _ 5 _ rfl, rfl⟩
  case body =>
    rintro l2 pre ⟨i, ⟨xo, xp, xa, xn, xm, xt⟩⟩ a' X ⟨hj, hcy⟩ ⟨bb, hbb, rfl⟩ hlen2
    obtain ⟨fn, tmps, assign, body, hy, hR⟩ := yield_inRound (l' := l2) (yield_any (m' := n - 1 - 1 - 1) rfl (HY.out (pre.map txtOf) xt X hj (by simpa [selT] using hlen2)))
    simp only [encT] at hy
    gi_wp2
    refine ⟨fun _ => by omega, ?_⟩
    refine hR.mono ?_
    rintro e X3 (⟨rfl, hj3, hk3, hf3⟩ | ⟨rfl, hj3, hk3, hf3⟩)
    · gi_wp2
      exact ⟨keepsMono hf3 (by omega), ⟨hk3, keepsMono hf3 (by omega)⟩, by rw [List.map_append]; exact hj3, hk3.cell (nb _ (Nat.le_refl _)) hcy⟩
    · gi_wp2
      exact ⟨keepsMono hf3 (by omega), ⟨hk3, keepsMono hf3 (by omega)⟩, rfl, by rw [List.map_append]; exact hj3⟩
  case done =>
    rintro D xs X hD rfl ⟨hj, hcy⟩ hK
    gi_wp2
    refine ⟨by simp, .inl ⟨_, _, rfl, run_takeDeferred hK, ?_⟩⟩
    exact ⟨_, results_none rfl _ _ _, ⟨_, rfl⟩, .inl ⟨_, rfl, HJ.out.putObj _ hj (by omega) hK rfl⟩⟩
  case stop =>
    rintro D c pre X hD ⟨k, hk, rfl⟩ ⟨rfl, hj⟩ hK
    gi_wp2
    refine ⟨by simp, .inl ⟨_, _, rfl, run_takeDeferred hK, ?_⟩⟩
    exact ⟨_, results_none rfl _ _ _, ⟨_, rfl⟩, .inr ⟨_, ⟨k, hk, rfl⟩, HJX.out.putObj _ hj (by omega) hK rfl⟩⟩
/-- The contract of the iterator over notes. -/
theorem notes_any (n : Nat) (hn : 5 ≤ n) (Bt cap : Nat) (sa : Option Addr) (bx : List Nat) (t : List StepD) (hlen : t.length ≤ 1000) (w : World) (hbx : ∀ x ∈ bx, x < w.heap.size)
    (hBt : w.cell? ⟨Bt, 0, none⟩ = some (.slice sa t.length cap)) (hS : SlBx w bx sa t) :
    SeqW Fence.wide n Tryd.prog 31 #[.pointer (some ⟨Bt, 0, none⟩)] encT (fun A C => KeepC bx A C ∧ KeepsFrom (w.heap.size + 2) A C) (fun ys => ys = selT t t.length) (fun pre => ∃ k, k ≤ t.length ∧ pre = selT t k) (selT t t.length).length w := fun l J Jx W hW hz hJ hJx hY h0 =>
  notes1_any n hn l Bt cap (w.heap.size + 2) sa bx t hlen J Jx W hz (fun x hx => by have := hbx x hx; omega) hJ hJx hY (cell_below hBt hW)
    (hS.imp id fun ⟨b, off, h1, h2, h3, h4⟩ => ⟨b, off, h1, rangeAt_below h2 hW h4, h3, Nat.lt_of_lt_of_le h4 hW.size⟩) h0
end Go.Proofs.YteiialpecaebdaaDoor
