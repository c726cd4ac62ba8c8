/-
  The table of units and of prefixes as plain lists, printed by a program out of the program's table; nothing of Go here. How far two texts lie apart, in plain words: the least number of steps, read from behind; rows; what a byte more does.
-/
set_option linter.unusedVariables false
set_option linter.unusedSimpArgs false
namespace Go.Proofs.YtaakaajcpjiccaaDoor
/-- A row: its codes by notations (bytes), whether it is metric, tag, number (num, den, ten), terms. -/
structure RowD where
  codes : List (List UInt8)
  metric : Bool
  tag : Int
  num : Int
  den : Int
  ten : Int
  terms : List (Int × Int)
  deriving DecidableEq, Repr, Inhabited
structure PreD where
  codes : List (List UInt8)
  ten : Int
  deriving DecidableEq, Repr, Inhabited
def tabRows : List RowD := [
  ⟨[[109], [77], [109], [77], [109]], true, 0, 1, 1, 0, []⟩,
  ⟨[[115], [83], [115], [83], [115]], true, 0, 1, 1, 0, []⟩,
  ⟨[[103], [71], [103], [71], [103]], true, 0, 1, 1, 0, []⟩,
  ⟨[[114, 97, 100], [82, 65, 68], [114, 97, 100], [82, 65, 68], [114, 97, 100]], true, 0, 1, 1, 0, []⟩,
  ⟨[[75], [75], [75], [75], [75]], true, 0, 1, 1, 0, []⟩,
  ⟨[[67], [67], [67], [67], [67]], true, 0, 1, 1, 0, []⟩,
  ⟨[[99, 100], [67, 68], [99, 100], [67, 68], [99, 100]], true, 0, 1, 1, 0, []⟩,
  ⟨[[37], [37], [37], [], [37]], false, 0, 1, 1, (-2), []⟩,
  ⟨[[109, 111, 108], [77, 79, 76], [109, 111, 108], [77, 79, 76], [109, 111, 108]], true, 0, 602214076, 1, 15, []⟩,
  ⟨[[115, 114], [83, 82], [115, 114], [83, 82], [115, 114]], true, 0, 1, 1, 0, [(3, 2)]⟩,
  ⟨[[72, 122], [72, 90], [72, 122], [72, 90], [72, 122]], true, 0, 1, 1, 0, [(1, (-1))]⟩,
  ⟨[[78], [78], [78], [78], [78]], true, 0, 1, 1, 3, [(2, 1), (0, 1), (1, (-2))]⟩,
  ⟨[[80, 97], [80, 65, 76], [80, 97], [80, 65], [80, 97]], true, 0, 1, 1, 0, [(11, 1), (0, (-2))]⟩,
  ⟨[[74], [74], [74], [74], [74]], true, 0, 1, 1, 0, [(11, 1), (0, 1)]⟩,
  ⟨[[87], [87], [87], [87], [87]], true, 0, 1, 1, 0, [(13, 1), (1, (-1))]⟩,
  ⟨[[65], [65], [65], [65], [65]], true, 0, 1, 1, 0, [(5, 1), (1, (-1))]⟩,
  ⟨[[86], [86], [86], [86], [86]], true, 0, 1, 1, 0, [(13, 1), (5, (-1))]⟩,
  ⟨[[70], [70], [70], [70], [70]], true, 0, 1, 1, 0, [(5, 1), (16, (-1))]⟩,
  ⟨[[79, 104, 109], [79, 72, 77], [79, 104, 109], [79, 72, 77], [111, 104, 109]], true, 0, 1, 1, 0, [(16, 1), (15, (-1))]⟩,
  ⟨[[83], [83, 73, 69], [83], [83, 73, 69], [83]], true, 0, 1, 1, 0, [(18, (-1))]⟩,
  ⟨[[87, 98], [87, 66], [87, 98], [87, 66], [87, 98]], true, 0, 1, 1, 0, [(16, 1), (1, 1)]⟩,
  ⟨[[67, 101, 108], [67, 69, 76], [91, 111, 67, 93], [67, 69, 76], []], true, 1, 1, 1, 0, [(4, 1)]⟩,
  ⟨[[84], [84], [84], [84], [84]], true, 0, 1, 1, 0, [(20, 1), (0, (-2))]⟩,
  ⟨[[72], [72], [72], [72], [72]], true, 0, 1, 1, 0, [(20, 1), (15, (-1))]⟩,
  ⟨[[108, 109], [76, 77], [108, 109], [76, 77], [108, 109]], true, 0, 1, 1, 0, [(6, 1), (9, 1)]⟩,
  ⟨[[108, 120], [76, 88], [108, 120], [76, 88], [108, 120]], true, 0, 1, 1, 0, [(24, 1), (0, (-2))]⟩,
  ⟨[[66, 113], [66, 81], [66, 113], [66, 81], [66, 113]], true, 0, 1, 1, 0, [(1, (-1))]⟩,
  ⟨[[71, 121], [71, 89], [71, 121], [71, 89], [71, 121]], true, 0, 1, 1, (-3), [(13, 1), (2, (-1))]⟩,
  ⟨[[83, 118], [83, 86], [83, 118], [83, 86], [83, 118]], true, 0, 1, 1, (-3), [(13, 1), (2, (-1))]⟩,
  ⟨[[108], [76], [76], [76], [108]], true, 0, 1, 1, (-3), [(0, 3)]⟩,
  ⟨[[97, 114], [65, 82], [97], [65, 82, 69], [97]], true, 0, 1, 1, 2, [(0, 2)]⟩,
  ⟨[[109, 105, 110], [77, 73, 78], [109, 105, 110], [77, 73, 78], [109, 105, 110]], false, 0, 6, 1, 1, [(1, 1)]⟩,
  ⟨[[104], [72, 82], [104], [72, 82], [104, 114]], false, 0, 36, 1, 2, [(1, 1)]⟩,
  ⟨[[100], [68], [100], [68], [100]], false, 0, 24, 1, 0, [(32, 1)]⟩,
  ⟨[[97], [65, 78, 78], [121, 114], [65, 78, 78], [121, 114]], false, 0, 36525, 1, (-2), [(33, 1)]⟩,
  ⟨[[116], [84, 78, 69], [116], [84, 78, 69], [116]], true, 0, 1, 1, 6, [(2, 1)]⟩,
  ⟨[[98, 97, 114], [66, 65, 82], [98, 97, 114], [66, 65, 82], [98, 97, 114]], true, 0, 1, 1, 5, [(12, 1)]⟩,
  ⟨[[91, 105, 110, 95, 105, 93], [91, 73, 78, 95, 73, 93], [105, 110], [73, 78], [105, 110]], false, 0, 254, 1, (-4), [(0, 1)]⟩,
  ⟨[[91, 108, 98, 95, 97, 118, 93], [91, 76, 66, 95, 65, 86, 93], [108, 98], [76, 66], [108, 98]], false, 0, 45359237, 1, (-5), [(2, 1)]⟩,
  ⟨[[91, 112, 72, 93], [91, 80, 72, 93], [112, 72], [], []], false, 2, 1, 1, 0, [(8, 1), (29, (-1))]⟩,
  ⟨[[66], [66], [66], [], []], true, 3, 1, 1, 0, []⟩,
  ⟨[[91, 105, 85, 93], [91, 73, 85, 93], [73, 85], [], [73, 85]], true, 0, 1, 1, 0, []⟩,
  ⟨[[101, 113], [69, 81], [101, 113], [69, 81], [101, 113]], true, 0, 1, 1, 0, [(8, 1)]⟩,
  ⟨[[111, 115, 109], [79, 83, 77], [111, 115, 109], [79, 83, 77], [111, 115, 109]], true, 0, 1, 1, 0, [(8, 1)]⟩,
  ⟨[[107, 97, 116], [75, 65, 84], [107, 97, 116], [75, 65, 84], [107, 97, 116]], true, 0, 1, 1, 0, [(8, 1), (1, (-1))]⟩,
  ⟨[[117], [65, 77, 85], [117], [85], [117]], true, 0, 16605390666, 1, (-34), [(2, 1)]⟩,
  ⟨[[101, 86], [69, 86], [101, 86], [69, 86], [101, 86]], true, 0, 1602176634, 1, (-28), [(13, 1)]⟩,
  ⟨[[91, 100, 114, 95, 97, 118, 93], [91, 68, 82, 95, 65, 86, 93], [100, 114], [], [100, 114]], false, 0, 1, 256, 0, [(38, 1)]⟩]
def tabPres : List PreD := [
  ⟨[[89], [89, 65], [89], [], [89]], 24⟩,
  ⟨[[90], [90, 65], [90], [], [90]], 21⟩,
  ⟨[[69], [69, 88], [69], [69], [69]], 18⟩,
  ⟨[[80], [80, 84], [80], [80, 69], [80]], 15⟩,
  ⟨[[84], [84, 82], [84], [84], [84]], 12⟩,
  ⟨[[71], [71, 65], [71], [71], [71]], 9⟩,
  ⟨[[77], [77, 65], [77], [77, 65], [77]], 6⟩,
  ⟨[[107], [75], [107], [75], [107]], 3⟩,
  ⟨[[104], [72], [104], [72], [104]], 2⟩,
  ⟨[[100, 97], [68, 65], [100, 97], [68, 65], [100, 97]], 1⟩,
  ⟨[[100], [68], [100], [68], [100]], (-1)⟩,
  ⟨[[99], [67], [99], [67], [99]], (-2)⟩,
  ⟨[[109], [77], [109], [77], [109]], (-3)⟩,
  ⟨[[117], [85], [117], [85], [117]], (-6)⟩,
  ⟨[[110], [78], [110], [78], [110]], (-9)⟩,
  ⟨[[112], [80], [112], [80], [112]], (-12)⟩,
  ⟨[[102], [70], [102], [70], [102]], (-15)⟩,
  ⟨[[97], [65], [97], [65], [97]], (-18)⟩,
  ⟨[[122], [90, 79], [122], [], [122]], (-21)⟩,
  ⟨[[121], [89, 79], [121], [], [121]], (-24)⟩]
end Go.Proofs.YtaakaajcpjiccaaDoor
namespace Go.Proofs.YtaakaajcpjiccaaDoor
/-- How far two texts lie apart, both read from behind. -/
def levR : List UInt8 → List UInt8 → Nat
  | [], bs => bs.length
  | a :: as, [] => as.length + 1
  | a :: as, b :: bs => min (levR as bs + if a = b then 0 else 1) (min (levR (a :: as) bs + 1) (levR as (b :: bs) + 1))
termination_by as bs => as.length + bs.length
theorem levR_nil (bs : List UInt8) : levR [] bs = bs.length := by rw [levR]
theorem levR_nil2 (as : List UInt8) : levR as [] = as.length := by cases as <;> simp [levR]
theorem levR_cons (a b : UInt8) (as bs : List UInt8) : levR (a :: as) (b :: bs) = min (levR as bs + if a = b then 0 else 1) (min (levR (a :: as) bs + 1) (levR as (b :: bs) + 1)) := by rw [levR]
theorem levR_comm : ∀ (as bs : List UInt8), levR as bs = levR bs as
  | [], bs => by rw [levR_nil, levR_nil2]
  | a :: as, [] => by rw [levR_nil2, levR_nil]
  | a :: as, b :: bs => by
    rw [levR_cons, levR_cons, levR_comm as bs, levR_comm (a :: as) bs, levR_comm as (b :: bs)]
    have : (if a = b then 0 else 1) = (if b = a then 0 else 1) := by
      by_cases h : a = b
      · rw [if_pos h, if_pos h.symm]
      · rw [if_neg h, if_neg (Ne.symm h)]
    rw [this]
    omega
termination_by as bs => as.length + bs.length
theorem levR_same : ∀ (as : List UInt8), levR as as = 0
  | [] => by rw [levR_nil]; rfl
  | a :: as => by rw [levR_cons, levR_same as]; simp
theorem levR_head (a : UInt8) (as bs : List UInt8) : levR (a :: as) (a :: bs) ≤ levR as bs := by rw [levR_cons, if_pos rfl]; omega
theorem levR_drop (a : UInt8) (as bs : List UInt8) : levR (a :: as) bs ≤ levR as bs + 1 := by
  cases bs with
  | nil => rw [levR_nil2, levR_nil2]; simp
  | cons b bs => rw [levR_cons]; omega
theorem levR_drop2 (b : UInt8) (as bs : List UInt8) : levR as (b :: bs) ≤ levR as bs + 1 := by
  rw [levR_comm, levR_comm as bs]; exact levR_drop b bs as
theorem levR_change (a b : UInt8) (as : List UInt8) : levR (a :: as) (b :: as) ≤ 1 := by
  rw [levR_cons, levR_same]; split <;> omega
theorem levR_behind (x : List UInt8) : ∀ (as bs : List UInt8), levR (x ++ as) (x ++ bs) ≤ levR as bs := by
  induction x with
  | nil => intro as bs; exact Nat.le_refl _
  | cons c x ih => intro as bs; exact Nat.le_trans (levR_head c _ _) (ih as bs)
theorem levR_zero : ∀ (as bs : List UInt8), levR as bs = 0 → as = bs
  | [], bs, h => by rw [levR_nil] at h; exact (List.eq_nil_of_length_eq_zero h).symm
  | a :: as, [], h => by rw [levR_nil2] at h; simp at h
  | a :: as, b :: bs, h => by
    rw [levR_cons] at h
    by_cases e : a = b
    · subst e
      rw [if_pos rfl] at h
      rw [levR_zero as bs (by omega)]
    · rw [if_neg e] at h; omega
termination_by as bs => as.length + bs.length
/-- A byte more on the right: no less than the least of the row before. -/
theorem levR_grow (b : UInt8) (bs : List UInt8) (m : Nat) : ∀ (as : List UInt8), (∀ j, j ≤ as.length → m ≤ levR (as.drop j) bs) → m ≤ levR as (b :: bs)
  | [], h => by
    have := h 0 (Nat.zero_le _)
    rw [List.drop_zero, levR_nil] at this
    rw [levR_nil, List.length_cons]; omega
  | a :: as, h => by
    have h0 := h 0 (Nat.zero_le _)
    have h1 := h 1 (by simp)
    rw [List.drop_zero] at h0
    rw [List.drop_succ_cons, List.drop_zero] at h1
    have h2 := levR_grow b bs m as fun j hj => by
      have := h (j + 1) (by simp; omega)
      rwa [List.drop_succ_cons] at this
    rw [levR_cons]
    split <;> omega
/-- How far two texts lie apart. -/
def dist (a b : List UInt8) : Nat := levR a.reverse b.reverse
theorem dist_comm (a b : List UInt8) : dist a b = dist b a := levR_comm _ _
theorem dist_same (a : List UInt8) : dist a a = 0 := levR_same _
theorem dist_zero {a b : List UInt8} (h : dist a b = 0) : a = b := by
  have := levR_zero _ _ h
  simpa using congrArg List.reverse this
theorem dist_change (x y : List UInt8) (c d : UInt8) : dist (x ++ c :: y) (x ++ d :: y) ≤ 1 := by
  unfold dist
  rw [List.reverse_append, List.reverse_append, List.reverse_cons, List.reverse_cons, List.append_assoc, List.append_assoc]
  refine Nat.le_trans (levR_behind _ _ _) ?_
  exact levR_change c d _
theorem dist_gone (x y : List UInt8) (d : UInt8) : dist (x ++ y) (x ++ d :: y) ≤ 1 := by
  unfold dist
  rw [List.reverse_append, List.reverse_append, List.reverse_cons, List.append_assoc]
  refine Nat.le_trans (levR_behind _ _ _) ?_
  refine Nat.le_trans (levR_drop2 d _ _) ?_
  show levR x.reverse x.reverse + 1 ≤ 1
  rw [levR_same]; exact Nat.le_refl _
theorem dist_come (x y : List UInt8) (c : UInt8) : dist (x ++ c :: y) (x ++ y) ≤ 1 := by
  rw [dist_comm]; exact dist_gone x y c
/-- The row of a word behind a text (read from behind). -/
def rowR (w s : List UInt8) : List Nat := (List.range (w.length + 1)).map fun i => levR (w.take i).reverse s
theorem rowR_length (w s : List UInt8) : (rowR w s).length = w.length + 1 := by simp [rowR]
theorem rowR_at (w s : List UInt8) (i : Nat) (h : i ≤ w.length) : (rowR w s)[i]? = some (levR (w.take i).reverse s) := by
  unfold rowR
  rw [List.getElem?_map, List.getElem?_range (by omega)]
  rfl
theorem rowR_last (w s : List UInt8) : (rowR w s)[w.length]? = some (levR w.reverse s) := by
  rw [rowR_at w s _ (Nat.le_refl _), List.take_length]
theorem take_rev (w : List UInt8) (i : Nat) (h : i < w.length) : (w.take (i + 1)).reverse = w[i] :: (w.take i).reverse := by
  rw [List.take_succ_eq_append_getElem h]; simp
theorem row_next0 (w s : List UInt8) (c : UInt8) : levR (w.take 0).reverse (c :: s) = levR (w.take 0).reverse s + 1 := by
  simp [levR_nil]
theorem row_next (w s : List UInt8) (c : UInt8) (i : Nat) (h : i < w.length) : levR (w.take (i + 1)).reverse (c :: s) =
    min (levR (w.take i).reverse s + if w[i] = c then 0 else 1) (min (levR (w.take (i + 1)).reverse s + 1) (levR (w.take i).reverse (c :: s) + 1)) := by
  rw [take_rev w i h, levR_cons]
theorem row_bd (w s : List UInt8) (i : Nat) : levR (w.take i).reverse s ≤ w.length + s.length := by
  have : ∀ (as bs : List UInt8), levR as bs ≤ as.length + bs.length := by
    intro as
    induction as with
    | nil => intro bs; rw [levR_nil]; simp
    | cons a as ih => intro bs; have := levR_drop a as bs; have := ih bs; simp; omega
  have h := this (w.take i).reverse s
  have h2 := List.length_take_le i w
  simp at h
  omega
end Go.Proofs.YtaakaajcpjiccaaDoor
