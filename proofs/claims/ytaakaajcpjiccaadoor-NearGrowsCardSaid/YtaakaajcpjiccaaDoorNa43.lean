/-
  The chapter's example, in plain words: one symbol of the first notation lies within 1 of mmoll.
-/
import Derived.Test.YtaakaajcpjiccaaDoorNa42
set_option linter.unusedVariables false
set_option linter.unusedSimpArgs false
namespace Go.Proofs.YtaakaajcpjiccaaDoor
open Go.RowKit
open Go.Proofs

def dpGo (c : UInt8) : Nat → List UInt8 → List Nat → List Nat
  | left, w :: ws, r0 :: r1 :: rs => min (r0 + if w = c then 0 else 1) (min (r1 + 1) (left + 1)) :: dpGo c (min (r0 + if w = c then 0 else 1) (min (r1 + 1) (left + 1))) ws (r1 :: rs)
  | _, _, _ => []
def dpNx (w : List UInt8) (row : List Nat) (c : UInt8) : List Nat := match row with
  | [] => []
  | r0 :: rs => (r0 + 1) :: dpGo c (r0 + 1) w (r0 :: rs)
def dpDist (w t : List UInt8) : Nat := (t.foldl (dpNx w) (List.range (w.length + 1)))[w.length]?.getD 0
theorem rowR_drop (w s : List UInt8) (i : Nat) (h : i ≤ w.length) : (rowR w s).drop i = levR (w.take i).reverse s :: (rowR w s).drop (i + 1) := by
  have hl : i < (rowR w s).length := by rw [rowR_length]; omega
  rw [List.drop_eq_getElem_cons hl]
  congr 1
  have := rowR_at w s i h
  rw [List.getElem?_eq_getElem hl] at this
  exact Option.some.inj this
theorem dpGo_row (w s : List UInt8) (c : UInt8) : ∀ (n i : Nat), n + i = w.length → dpGo c (levR (w.take i).reverse (c :: s)) (w.drop i) ((rowR w s).drop i) = (rowR w (c :: s)).drop (i + 1)
  | 0, i, h => by
    have hi : i = w.length := by omega
    subst hi
    have e1 : (rowR w (c :: s)).drop (w.length + 1) = [] := List.drop_eq_nil_of_le (by rw [rowR_length]; omega)
    have e2 : (rowR w s).drop (w.length + 1) = [] := List.drop_eq_nil_of_le (by rw [rowR_length]; omega)
    rw [e1, rowR_drop w s _ (Nat.le_refl _), e2, List.drop_length]
    rfl
  | n + 1, i, h => by
    have hi : i < w.length := by omega
    rw [List.drop_eq_getElem_cons hi, rowR_drop w s i (by omega), rowR_drop w s (i + 1) (by omega), rowR_drop w (c :: s) (i + 1) (by omega)]
    simp only [dpGo]
    have e := row_next w s c i hi
    rw [← e]
    congr 1
    rw [← rowR_drop w s (i + 1) (by omega)]
    exact dpGo_row w s c n (i + 1) (by omega)
theorem dpNx_row (w s : List UInt8) (c : UInt8) : dpNx w (rowR w s) c = rowR w (c :: s) := by
  have h0 := rowR_drop w s 0 (Nat.zero_le _)
  have h1 := rowR_drop w (c :: s) 0 (Nat.zero_le _)
  rw [List.drop_zero] at h0 h1
  have h2 := dpGo_row w s c w.length 0 (by omega)
  rw [List.drop_zero, List.drop_zero, row_next0, h0] at h2
  rw [h0, h1, row_next0]
  unfold dpNx
  simp only
  congr 1
theorem dp_fold (w : List UInt8) : ∀ (t s : List UInt8), t.foldl (dpNx w) (rowR w s) = rowR w (t.reverse ++ s)
  | [], s => rfl
  | c :: t, s => by
    rw [List.foldl_cons, dpNx_row, dp_fold w t (c :: s)]
    simp
theorem dp_dist (w t : List UInt8) : dist w t = dpDist w t := by
  unfold dpDist
  rw [← row_start, dp_fold, List.append_nil, rowR_last]
  rfl
def exW : List UInt8 := [109, 109, 111, 108, 108]
def exT : List UInt8 := [109, 109, 111, 108]
set_option maxRecDepth 100000 in
theorem ex_all : ((List.range 21).all fun q => (List.range 48).all fun a => decide (1 < dpDist exW (textF 0 q a)) || textF 0 q a == exT) = true := by kernel_rfl
set_option maxRecDepth 100000 in
theorem ex_some : ((List.range 21).any fun q => (List.range 48).any fun a => toldF 0 q a && (textF 0 q a == exT)) = true := by kernel_rfl
theorem ex_one : dpDist exW exT = 1 := by kernel_rfl
def exS : ByteArray := ⟨#[109, 109, 111, 108, 108]⟩
def exB : ByteArray := ⟨#[109, 109, 111, 108]⟩
theorem exS_list : exS.toList = exW := by rw [ByteArray.toList_eq]; rfl
theorem exB_list : exB.toList = exT := by rw [ByteArray.toList_eq]; rfl
theorem awake_plain : ∃ r, nearN 1 exS 1 = [(exB, 1, r)] := by
  have hN : nearN 1 exS 1 = nearL (rowB 1) exS 1 := by
    unfold nearN
    rw [if_pos ⟨⟨by omega, by omega⟩, by omega, by omega⟩]
    rfl
  rw [hN]
  have hmemR : ∀ i, i < (rowB 1).length → ∃ q a, q < 21 ∧ a < 48 ∧ toldF 0 q a = true ∧ atR (rowB 1) i = ⟨(textF 0 q a).toArray⟩ := fun i hi => by
    have h1 : (rowB 1)[i] ∈ rowB 1 := List.getElem_mem hi
    unfold atR
    rw [List.getElem?_eq_getElem hi]
    simp only [Option.getD_some]
    generalize (rowB 1)[i] = b at h1
    unfold rowB at h1
    rw [List.mem_map] at h1
    obtain ⟨x, hx, rfl⟩ := h1
    have hx : x ∈ symsF 0 := hx
    unfold symsF at hx
    rw [List.mem_flatMap] at hx
    obtain ⟨q, hq, hx⟩ := hx
    unfold symsQ at hx
    rw [List.mem_map] at hx
    obtain ⟨a, ha, rfl⟩ := hx
    rw [List.mem_filter] at ha
    exact ⟨q, a, List.mem_range.1 hq, List.mem_range.1 ha.1, ha.2, rfl⟩
  have hall : ∀ q a, q < 21 → a < 48 → dist exW (textF 0 q a) ≤ 1 → textF 0 q a = exT := fun q a hq ha hd => by
    have h1 := List.all_eq_true.1 ex_all q (List.mem_range.2 hq)
    have h2 := List.all_eq_true.1 h1 a (List.mem_range.2 ha)
    rw [dp_dist] at hd
    simp only [Bool.or_eq_true, decide_eq_true_eq, beq_iff_eq] at h2
    rcases h2 with h2 | h2
    · omega
    · exact h2
  have hdd : ∀ t, dstR (rowB 1) exS t = dist exW (atR (rowB 1) t).toList := fun t => by unfold dstR; rw [exS_list]
  have hEl : ∀ x ∈ nearL (rowB 1) exS 1, x.2.2 < (rowB 1).length ∧ atR (rowB 1) x.2.2 = exB ∧ x = (exB, 1, x.2.2) := fun x hx => by
    obtain ⟨h1, h2, h3⟩ := (mem_nearL (rowB 1) exS 1 x).1 hx
    obtain ⟨q, a, hq, ha, -, e⟩ := hmemR x.2.2 h1
    have h4 : x.2.1 = dist exW (atR (rowB 1) x.2.2).toList := by rw [← hdd, h2]
    have e5 : (atR (rowB 1) x.2.2).toList = textF 0 q a := by rw [e, ByteArray.toList_eq]
    rw [e5] at h4
    have h6 := hall q a hq ha (by omega)
    have h7 : atR (rowB 1) x.2.2 = exB := by rw [e, h6]; rfl
    refine ⟨h1, h7, ?_⟩
    have h8 : x.2.1 = 1 := by rw [h4, h6, dp_dist]; exact ex_one
    have h9 : x.1 = exB := by rw [h2]; exact h7
    exact Prod.ext h9 (Prod.ext h8 rfl)
  have hex : ∃ x, x ∈ nearL (rowB 1) exS 1 := by
    obtain ⟨q, hq, h1⟩ := List.any_eq_true.1 ex_some
    obtain ⟨a, ha, h2⟩ := List.any_eq_true.1 h1
    simp only [Bool.and_eq_true, beq_iff_eq] at h2
    have hin : exB ∈ rowB 1 := by
      unfold rowB
      rw [List.mem_map]
      refine ⟨(textF 0 q a, q, a), ?_, by rw [h2.2]; rfl⟩
      show _ ∈ symsF 0
      unfold symsF
      rw [List.mem_flatMap]
      refine ⟨q, hq, ?_⟩
      unfold symsQ
      rw [List.mem_map]
      exact ⟨a, List.mem_filter.2 ⟨ha, h2.1⟩, rfl⟩
    obtain ⟨i, hi, e⟩ := List.getElem_of_mem hin
    have e2 : atR (rowB 1) i = exB := by unfold atR; rw [List.getElem?_eq_getElem hi]; exact e
    have e3 : dstR (rowB 1) exS i = 1 := by rw [hdd, e2, exB_list, dp_dist]; exact ex_one
    exact ⟨(exB, 1, i), (mem_nearL _ _ _ _).2 ⟨hi, by show (exB, 1, i) = (atR (rowB 1) i, dstR (rowB 1) exS i, i); rw [e2, e3], Nat.le_refl _⟩⟩
  have hs := nearL_sorted (rowB 1) exS 1
  generalize nearL (rowB 1) exS 1 = l at hEl hex hs
  cases l with
  | nil => obtain ⟨x, hx⟩ := hex; cases hx
  | cons x l =>
    cases l with
    | nil => exact ⟨x.2.2, by rw [← (hEl x (by simp)).2.2]⟩
    | cons y l =>
      exfalso
      have hx := hEl x (by simp)
      have hy := hEl y (by simp)
      have hxy : ltN x y = true := (List.pairwise_cons.1 hs).1 y (by simp)
      have e : x.2.2 = y.2.2 := keys_inj (rowB_nodup 1) hx.1 hy.1 (by rw [keyW_atR, keyW_atR, hx.2.1, hy.2.1])
      rw [hx.2.2, hy.2.2] at hxy
      simp only [ltN, decide_eq_true_eq] at hxy
      omega
end Go.Proofs.YtaakaajcpjiccaaDoor
