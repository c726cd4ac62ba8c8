/-
  Sound: the put closure, the loop.
-/
import Derived.Test.YteiialpecaebdaaDoorMy
set_option linter.unusedVariables false
set_option linter.unusedSimpArgs false
namespace Go.Proofs.YteiialpecaebdaaDoor
open Go.RowKit
open Go.Proofs

theorem Laid.below {w w' : World} (h : Laid w) (hb : Below w.heap.size w w') : Laid w' := fun j u hu => by
  have := h j u hu
  exact (hb.cell (World.block_lt_of_cell? _ _ this)).trans this
theorem takesI_cases (op : Int) : takesI op = 0 ∨ takesI op = 1 ∨ takesI op = 2 := by
  unfold takesI
  repeat' split
  all_goals simp
def PutOk (b B : Nat) (w : World) (x : StepD) (n : Nat) (e : Ending) (w' : World) : Prop :=
  e = .returned (.bool (mayB x && decide (takesI x.op ≤ n))) ∧ w'.cell? ⟨b, 0, none⟩ = some (.int .i64 (n + 1 - takesI x.op)) ∧ w'.frozen? ⟨b, 0, none⟩ = false ∧ Below B w w'
set_option maxHeartbeats 1000000 in
theorem put_any (op pre atom n num : Int) (text : ByteArray) (b B m : Nat) (w : World) (hL : Laid w) (hB : B ≤ b) (hc : w.cell? ⟨b, 0, none⟩ = some (.int .i64 m)) (hf : w.frozen? ⟨b, 0, none⟩ = false) (hm : m ≤ 100000) (hg : 0 < B) :
    Calls Tryd.prog 26 #[stepV op pre atom n num text, .pointer (some ⟨b, 0, none⟩)] w (PutOk b B w ⟨op, pre, atom, n, num, text⟩ m) := by
  have HL : Hid (∀ o, Laid (w.alloc o)) := fun o j u hu => cellAlloc o (hL j u hu)
  have hbl := World.block_lt_of_cell? _ _ hc
  have hbl : b < w.heap.size := hbl
  have hk := takesI_cases op
  clear hL
  go_enter Tryd.func26, Tryd.ntmps26
  go_wp2_with fail
  refine (takes_any _ _ _ _ _ _ _).mono ?_
  rintro e w1 ⟨rfl, hb1⟩
  have hx : ∀ (j : Nat) (v : Value), (#[.int .i64 op, .int .i64 pre, .int .i64 atom, .int .i64 n, .int .i64 num, .string text] : Array Value)[j]? = some v → w1.cell? ⟨w.heap.size, j, none⟩ = some v := fun j v hv => (hb1.cell (p := ⟨w.heap.size, j, none⟩) (by simp)).trans (cellNew w _ _ j v hv)
  have hx0 := hx 0 _ rfl
  have hx1 := hx 1 _ rfl
  have hx2 := hx 2 _ rfl
  have hx3 := hx 3 _ rfl
  have hx4 := hx 4 _ rfl
  have hx5 := hx 5 _ rfl
  have hc1 : w1.cell? ⟨b, 0, none⟩ = some (.int .i64 m) := (hb1.cell (p := ⟨b, 0, none⟩) (by simp; omega)).trans (cellAlloc _ hc)
  have hf1 : w1.frozen? ⟨b, 0, none⟩ = false := (hb1.frozen (p := ⟨b, 0, none⟩) (by simp; omega)).trans (by rw [(belA w _).frozen (p := ⟨b, 0, none⟩) hbl]; exact hf)
  have HL1 := Lib.hid ((HL.out _).below hb1)
  have HB1 := Lib.hid hb1
  clear hx hb1
  go_wp2_with fail
  refine (may_any _ _ _ _ _ _ _ HL1.out).mono ?_
  rintro e w2 ⟨rfl, hb2⟩
  have hbl1 := World.block_lt_of_cell? _ _ hc1
  have hc2 : w2.cell? ⟨b, 0, none⟩ = some (.int .i64 m) := (hb2.cell (p := ⟨b, 0, none⟩) hbl1).trans hc1
  have hf2 : w2.frozen? ⟨b, 0, none⟩ = false := (hb2.frozen (p := ⟨b, 0, none⟩) hbl1).trans hf1
  have HB2 := Lib.hid hb2
  clear hx0 hx1 hx2 hx3 hx4 hx5 hc1 hf1 hc hf hb2
  go_wp2_with fail
  all_goals
    rename_i hmb
    have hcs : ∀ v, (w2.setCell ⟨b, 0, none⟩ v).cell? ⟨b, 0, none⟩ = some v := fun v => by apply World.cell?_setCell_same; exact hc2
    go_ret
    refine ⟨?_, ?_, ?_, ?_⟩
    · first | (rw [hmb]; rfl) | (rw [Bool.not_eq_true] at hmb; rw [hmb]; rfl)
    · rw [hcs]
      show some (Value.int .i64 (m + (1 - takesI op))) = some (Value.int .i64 ((m : Int) + 1 - takesI op))
      congr 2; omega
    · simp [hf2]
    · exact (((belA w _).trans (HB1.out.mono (by simp))).trans (HB2.out.mono (by have := HB1.out.size; simp at this; omega))).mono (by omega) |>.setCell (p := ⟨b, 0, none⟩) hB _
/-! Steps of a slice, read only. -/
def SlAt (w : World) (a : Option Addr) (t : List StepD) : Prop := t = [] ∨ ∃ g o, a = some ⟨g, o, none⟩ ∧ w.rangeAt g o (stepsL t)
theorem size_S : (Tryd.prog.info? 35).map (·.size) = some 6 := by kernel_rfl
theorem stepsL_length (t : List StepD) : (stepsL t).length = t.length * 6 := by
  induction t with
  | nil => rfl
  | cons x r ih => simp [stepsL, stepL] at ih ⊢; omega
theorem step_range {w : World} {g o : Nat} {t : List StepD} (h : w.rangeAt g o (stepsL t)) (k : Nat) (hk : k < t.length) : w.rangeAt g (o + k * 6) (stepL t[k]) := by
  intro j v hj
  have h2 := h (k * 6 + j) v
  rw [← Nat.add_assoc] at h2
  apply h2
  have hd := flat_drop stepL 6 t (fun x _ => rfl) k hk
  rw [← hd, List.getElem?_take] at hj
  split at hj
  · rwa [List.getElem?_drop] at hj
  · cases hj
theorem rangeAt_below {w w' : World} {g o B : Nat} {cs : List Value} (h : w.rangeAt g o cs) (hb : Below B w w') (hg : g < B) : w'.rangeAt g o cs := fun j v hj => (hb.cell (p := ⟨g, o + j, none⟩) hg).trans (h j v hj)
theorem range_lt {w : World} {g o : Nat} {cs : List Value} (h : w.rangeAt g o cs) (hn : cs ≠ []) : g < w.heap.size := by
  cases cs with
  | nil => exact (hn rfl).elim
  | cons v r => exact World.block_lt_of_cell? w ⟨g, o + 0, none⟩ (h 0 v rfl)
theorem SlAt.below {w w' : World} {a : Option Addr} {t : List StepD} (h : SlAt w a t) (hb : Below w.heap.size w w') : SlAt w' a t := by
  by_cases ht : t = []
  · exact .inl ht
  · rcases h with h | ⟨g, o, ha, hr⟩
    · exact .inl h
    · refine .inr ⟨g, o, ha, rangeAt_below hr hb (range_lt hr ?_)⟩
      intro e
      have := congrArg List.length e
      rw [stepsL_length] at this
      simp at this
      exact ht (List.eq_nil_of_length_eq_zero (by omega))
def soundN : List StepD → Nat → Option Nat
  | [], n => some n
  | x :: r, n => if mayB x && decide (takesI x.op ≤ n) then soundN r (n + 1 - (takesI x.op).toNat) else none
def soundB (t : List StepD) : Bool := soundN t 0 == some 1 && decide (t.length ≤ 255)
theorem soundN_step {t : List StepD} {k : Nat} (hk : k < t.length) (n : Nat) : soundN (t.drop k) n = if mayB t[k] && decide (takesI t[k].op ≤ n) then soundN (t.drop (k + 1)) (n + 1 - (takesI t[k].op).toNat) else none := by
  rw [List.drop_eq_getElem_cons hk]
  rfl
theorem frozenNew (w : World) (cs : Array Value) (t : TypeId) (j : Nat) : (w.alloc (.cells cs t)).frozen? ⟨w.heap.size, j, none⟩ = false := by
  have h : (w.alloc (.cells cs t)).heap[w.heap.size]? = some (.cells cs t) := heap_alloc_new w _
  simp only [World.frozen?, h]
  simp
def SoundOk (w : World) (t : List StepD) (e : Ending) (w' : World) : Prop := e = .returned (.bool (soundB t)) ∧ Below w.heap.size w w'
set_option maxHeartbeats 1000000 in
theorem sound_any (a : Option Addr) (c : Nat) (t : List StepD) (w : World) (hL : Laid w) (hS : SlAt w a t) (hl : t.length ≤ 1000) :
    Calls Tryd.prog 15 #[.slice a t.length c] w (SoundOk w t) := by
  have hg : 0 < w.heap.size := by
    have := hL 0 _ rfl
    exact World.block_lt_of_cell? _ _ this
  have HL := Lib.hid hL
  have HS := Lib.hid hS
  clear hL hS
  go_enter Tryd.func15, Tryd.ntmps15
  go_wp2_with fail
  go_loopw [10] (fun i wr => ∃ k n : Nat, k ≤ t.length ∧ i = .int .i64 k ∧ Below w.heap.size w wr ∧ wr.cell? ⟨w.heap.size, 0, none⟩ = some (.int .i64 n) ∧ wr.frozen? ⟨w.heap.size, 0, none⟩ = false ∧ n ≤ k ∧ soundN t 0 = soundN (t.drop k) n) (fun i _ => t.length - (intOf i).toNat)
  case atStart => exact ⟨0, 0, by omega, rfl, belA w _, cellNew w _ _ 0 _ rfl, frozenNew _ _ _ _, by omega, rfl⟩
  case round =>
    obtain ⟨k, n, hk, rfl, hb, hc, hf, hn, hs⟩ := hrel
    by_cases hlt : k < t.length
    · obtain ⟨g, o, rfl, hr⟩ : ∃ g o, a = some ⟨g, o, none⟩ ∧ wr.rangeAt g o (stepsL t) := by
        rcases HS.out.below hb with h | h
        · subst h; simp at hlt
        · exact h
      have hr := step_range hr k hlt
      unfold stepL at hr
      have HR := Lib.hid hr; have HB := Lib.hid hb; have HN := Lib.hid hs
      clear hr hb hs
      have hS2 := Lib.hid (soundN_step hlt n)
      have hk2 := takesI_cases t[k].op
      go_wp2_with (refine wpList_load_mid rfl 35 _ rfl g _ rfl _ _ HR.out Tryd.underlying35 rfl size_S ?_)
      have hc1 : ∀ x, (wr.alloc x).cell? ⟨w.heap.size, 0, none⟩ = some (.int .i64 n) := fun x => cellAlloc _ hc
      have hbl := World.block_lt_of_cell? _ _ hc
      have hf1 : ∀ x, (wr.alloc x).frozen? ⟨w.heap.size, 0, none⟩ = false := fun x => ((belA wr x).frozen (p := ⟨w.heap.size, 0, none⟩) hbl).trans hf
      refine (put_any _ _ _ _ _ _ w.heap.size w.heap.size n _ ((HL.out.below HB.out).below (belA wr _)) (Nat.le_refl _) (hc1 _) (hf1 _) (by omega) hg).mono ?_
      rintro e w1 ⟨rfl, hc', hf', hb'⟩
      cases hq : (mayB t[k] && decide (takesI t[k].op ≤ n))
      · skip
        go_wp2_with fail
        go_ret
        refine ⟨?_, ?_⟩
        · have : soundB t = false := by
            unfold soundB
            rw [HN.out, hS2.out, hq]
            rfl
          rw [this]; rfl
        · exact (HB.out.alloc HB.out.size _).trans hb'
      · skip
        have hle : takesI t[k].op ≤ n := by
          have := (Bool.and_eq_true _ _ ▸ hq).2
          exact of_decide_eq_true this
        go_wp2_with fail
        go_roundw
        case rel =>
          refine ⟨k + 1, n + 1 - (takesI t[k].op).toNat, by omega, by go_num, (HB.out.alloc HB.out.size _).trans hb', ?_, hf', by omega, ?_⟩
          · rw [hc']
            show some (Value.int .i64 ((n : Int) + 1 - takesI t[k].op)) = _
            congr 2; omega
          · rw [HN.out, hS2.out, hq]; rfl
        case measure => simp [intOf]; omega
    · obtain rfl : k = t.length := by omega
      rw [List.drop_length] at hs
      have HB := Lib.hid hb; have HN := Lib.hid hs
      clear hb hs
      go_wp2_with fail
      all_goals
        go_ret
        refine ⟨?_, HB.out⟩
        unfold soundB
        rw [HN.out]
        rename_i h1
        by_cases h2 : t.length ≤ 255
        · have h3 : decide ((t.length : Int) ≤ 255) = true := decide_eq_true (by omega)
          have h4 : decide (t.length ≤ 255) = true := decide_eq_true h2
          first | (have h5 : n = 1 := by omega
                   subst h5; rw [h4]; exact bool_returned h3) | (have h5 : (some n == some 1) = false := by simp; omega
                                                                 show _ = Ending.returned (Value.bool (some n == some 1 && _)); rw [h5]; rfl)
        · have h3 : decide ((t.length : Int) ≤ 255) = false := decide_eq_false (by omega)
          have h4 : decide (t.length ≤ 255) = false := decide_eq_false h2
          rw [h4, Bool.and_false]
          first | exact bool_returned h3 | rfl
end Go.Proofs.YteiialpecaebdaaDoor
