/-
  Trees as plain data: their steps in a row, soundness, parts, depth. Nothing of Go here.
-/
import Derived.Test.YteiialpecaebdaaDoorSo
set_option linter.unusedVariables false
set_option linter.unusedSimpArgs false
namespace Go.Proofs.YteiialpecaebdaaDoor

inductive Tree where
  | leaf (x : StepD)
  | one (x : StepD) (a : Tree)
  | two (x : StepD) (a b : Tree)
namespace Tree
def root : Tree → StepD
  | leaf x => x
  | one x _ => x
  | two x _ _ => x
def ser : Tree → List StepD
  | leaf x => [x]
  | one x a => ser a ++ [x]
  | two x a b => ser a ++ ser b ++ [x]
def Wf : Tree → Prop
  | leaf x => mayB x = true ∧ takesI x.op = 0
  | one x a => mayB x = true ∧ takesI x.op = 1 ∧ a.Wf
  | two x a b => mayB x = true ∧ takesI x.op = 2 ∧ a.Wf ∧ b.Wf
def left : Tree → List StepD
  | two _ a _ => ser a
  | _ => []
def right : Tree → List StepD
  | leaf _ => []
  | one _ a => ser a
  | two _ _ b => ser b
theorem ser_root : ∀ (T : Tree), ∃ l, T.ser = l ++ [T.root]
  | leaf x => ⟨[], rfl⟩
  | one x a => ⟨a.ser, rfl⟩
  | two x a b => ⟨a.ser ++ b.ser, rfl⟩
theorem ser_pos (T : Tree) : 0 < T.ser.length := by obtain ⟨l, h⟩ := T.ser_root; rw [h, List.length_append, List.length_singleton]; omega
end Tree
open Tree
theorem soundN_ser : ∀ (T : Tree), T.Wf → ∀ (r : List StepD) (n : Nat), soundN (T.ser ++ r) n = soundN r (n + 1)
  | .leaf x, h, r, n => by
    obtain ⟨h1, h2⟩ := h
    simp [ser, soundN, h1, h2]
  | .one x a, h, r, n => by
    obtain ⟨h1, h2, h3⟩ := h
    rw [ser, List.append_assoc, soundN_ser a h3]
    have h4 : (1 : Int) ≤ ((n + 1 : Nat) : Int) := by omega
    simp only [List.singleton_append, soundN, h1, h2, decide_eq_true h4]
    rfl
  | .two x a b, h, r, n => by
    obtain ⟨h1, h2, h3, h4⟩ := h
    rw [ser, List.append_assoc, List.append_assoc, soundN_ser a h3, soundN_ser b h4]
    have h4 : (2 : Int) ≤ ((n + 1 + 1 : Nat) : Int) := by omega
    simp only [List.singleton_append, soundN, h1, h2, decide_eq_true h4]
    rfl
def sers (L : List Tree) : List StepD := L.flatMap ser
theorem sers_append (L M : List Tree) : sers (L ++ M) = sers L ++ sers M := List.flatMap_append
theorem last_one {α : Type} {L : List α} {n : Nat} (h : L.length = n + 1) : ∃ M a, L = M ++ [a] ∧ M.length = n := by
  have hn : L ≠ [] := by intro e; subst e; simp at h
  refine ⟨L.dropLast, L.getLast hn, (List.dropLast_concat_getLast hn).symm, ?_⟩
  rw [List.length_dropLast]; omega
theorem sound_trees : ∀ (r : List StepD) (L : List Tree) (m : Nat), (∀ T ∈ L, T.Wf) → soundN r L.length = some m → ∃ L', (∀ T ∈ L', T.Wf) ∧ L'.length = m ∧ sers L ++ r = sers L'
  | [], L, m, hw, h => by
    simp [soundN] at h
    exact ⟨L, hw, h, by simp⟩
  | x :: r, L, m, hw, h => by
    rw [soundN] at h
    split at h
    · rename_i hc
      rw [Bool.and_eq_true] at hc
      obtain ⟨h1, h2⟩ := hc
      have h2 := of_decide_eq_true h2
      rcases takesI_cases x.op with hk | hk | hk
      · rw [hk] at h h2
        have := sound_trees r (L ++ [.leaf x]) m (by
          intro T hT
          rcases List.mem_append.1 hT with hT | hT
          · exact hw T hT
          · obtain rfl := List.mem_singleton.1 hT
            exact ⟨h1, hk⟩) (by simpa using h)
        obtain ⟨L', a, b, c⟩ := this
        exact ⟨L', a, b, by rw [← c, sers_append]; simp [sers, ser]⟩
      · rw [hk] at h h2
        obtain ⟨M, a, rfl, hM⟩ := last_one (L := L) (n := L.length - 1) (by omega)
        have hl : (M ++ [a]).length = M.length + 1 := by simp
        rw [hl] at h h2
        have := sound_trees r (M ++ [.one x a]) m (by
          intro T hT
          rcases List.mem_append.1 hT with hT | hT
          · exact hw T (by simp [hT])
          · obtain rfl := List.mem_singleton.1 hT
            exact ⟨h1, hk, hw a (by simp)⟩) (by simpa using h)
        obtain ⟨L', a', b, c⟩ := this
        exact ⟨L', a', b, by rw [← c, sers_append, sers_append]; simp [sers, ser]⟩
      · rw [hk] at h h2
        obtain ⟨M', b, rfl, hM⟩ := last_one (L := L) (n := L.length - 1) (by omega)
        have hl' : (M' ++ [b]).length = M'.length + 1 := by simp
        rw [hl'] at h h2
        obtain ⟨M, a, rfl, hM⟩ := last_one (L := M') (n := M'.length - 1) (by omega)
        have hl : (M ++ [a]).length = M.length + 1 := by simp
        rw [hl] at h h2
        have := sound_trees r (M ++ [.two x a b]) m (by
          intro T hT
          rcases List.mem_append.1 hT with hT | hT
          · exact hw T (by simp [hT])
          · obtain rfl := List.mem_singleton.1 hT
            exact ⟨h1, hk, hw a (by simp), hw b (by simp)⟩) (by simpa using h)
        obtain ⟨L', a', b', c⟩ := this
        exact ⟨L', a', b', by rw [← c, sers_append, sers_append, sers_append]; simp [sers, ser]⟩
    · cases h
theorem soundB_iff (t : List StepD) : soundB t = true ↔ t.length ≤ 255 ∧ ∃ T : Tree, T.Wf ∧ t = T.ser := by
  unfold soundB
  rw [Bool.and_eq_true, decide_eq_true_eq, beq_iff_eq]
  constructor
  · rintro ⟨h, hl⟩
    refine ⟨hl, ?_⟩
    obtain ⟨L, hw, h1, h2⟩ := sound_trees t [] 1 (by simp) h
    match L, h1 with
    | [T], _ => exact ⟨T, hw T (by simp), by simpa [sers] using h2⟩
  · rintro ⟨hl, T, hw, rfl⟩
    have := soundN_ser T hw [] 0
    rw [List.append_nil] at this
    exact ⟨by rw [this]; rfl, hl⟩
/-! Depth. -/
def inB (op last : Int) : Bool := (last == 3 || last == 4 || last == 5) || (op == 6 && (last == 6 || last == 7))
def nestT : Tree → Int
  | .leaf _ => 0
  | .one x b => nestT b + (if inB x.op b.root.op then 1 else 0)
  | .two x a b => max (nestT b + (if inB x.op b.root.op then 1 else 0)) (nestT a)
theorem nestT_bound : ∀ T : Tree, 0 ≤ nestT T ∧ nestT T < T.ser.length
  | .leaf _ => by simp [nestT, ser]
  | .one x b => by
    have := nestT_bound b
    simp only [nestT, ser, List.length_append, List.length_singleton]
    split <;> omega
  | .two x a b => by
    have h1 := nestT_bound a
    have h2 := nestT_bound b
    simp only [nestT, ser, List.length_append, List.length_singleton]
    split <;> omega
end Go.Proofs.YteiialpecaebdaaDoor
