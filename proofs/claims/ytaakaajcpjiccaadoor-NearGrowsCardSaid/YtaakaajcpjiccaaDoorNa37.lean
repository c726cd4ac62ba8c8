/-
  What lies near a word, in plain words; the reference's distances.
-/
import Derived.Test.YtaakaajcpjiccaaDoorNa36
import Derived.Test.YtaakaajcpjiccaaDoorNa31
set_option linter.unusedVariables false
set_option linter.unusedSimpArgs false
namespace Go.Proofs.YtaakaajcpjiccaaDoor
open Go.RowKit
open Go.Proofs

/-- Text, distance, rank. -/
abbrev NearD := ByteArray × Nat × Nat
def nearV (x : NearD) : List Value := [.string x.1, .int .i64 (x.2.1 : Int), .int .i64 (x.2.2 : Int)]
def OwnNe (w : World) (B : Nat) (v : Value) (l : List NearD) : Prop := w.ownsRow B 42 3 v l.length (l.flatMap nearV)
def atR (R : List ByteArray) (i : Nat) : ByteArray := R[i]?.getD ⟨#[]⟩
/-- The distance of the symbol of a rank. -/
def dstR (R : List ByteArray) (s : ByteArray) (i : Nat) : Nat := dist s.toList (atR R i).toList
/-- Those of the first k that lie at the distance d. -/
def nearQ (R : List ByteArray) (s : ByteArray) (d k : Nat) : List NearD := ((List.range k).filter fun i => dstR R s i == d).map fun i => (atR R i, d, i)
def nearTo (R : List ByteArray) (s : ByteArray) (d k : Nat) : List NearD := (List.range d).flatMap (fun e => nearQ R s e R.length) ++ nearQ R s d k
/-- All within the distance k, by distances, and ranks. -/
def nearL (R : List ByteArray) (s : ByteArray) (k : Nat) : List NearD := (List.range (k + 1)).flatMap fun e => nearQ R s e R.length
theorem nearTo_succ (R : List ByteArray) (s : ByteArray) (d k : Nat) : nearTo R s d (k + 1) = nearTo R s d k ++ if dstR R s k == d then [(atR R k, d, k)] else [] := by
  unfold nearTo nearQ
  rw [List.range_succ, List.filter_append, List.map_append, List.append_assoc]
  congr 2
  cases h : dstR R s k == d <;> simp [h]
theorem nearTo_next (R : List ByteArray) (s : ByteArray) (d : Nat) : nearTo R s (d + 1) 0 = nearTo R s d R.length := by
  unfold nearTo
  rw [List.range_succ, List.flatMap_append]
  simp [nearQ]
theorem nearTo_all (R : List ByteArray) (s : ByteArray) (k : Nat) : nearTo R s (k + 1) 0 = nearL R s k := by
  unfold nearTo nearL
  simp [nearQ]
theorem nearQ_le (R : List ByteArray) (s : ByteArray) (d k : Nat) : (nearQ R s d k).length ≤ k := by
  unfold nearQ
  rw [List.length_map]
  exact Nat.le_trans (List.length_filter_le _ _) (by simp)
theorem nearTo_le (R : List ByteArray) (s : ByteArray) (d k : Nat) (hk : k ≤ R.length) : (nearTo R s d k).length ≤ (d + 1) * R.length := by
  unfold nearTo
  rw [List.length_append]
  have h1 := length_flat_le (fun e => nearQ R s e R.length) R.length (List.range d) (fun a _ => nearQ_le _ _ _ _)
  have h2 := nearQ_le R s d k
  rw [List.length_range] at h1
  rw [Nat.succ_mul]
  omega
theorem rowB_short (n : Int) : ∀ r ∈ rowB n, r.size ≤ 16 := by
  intro r hr
  unfold rowB symsN at hr
  rw [List.mem_map] at hr
  obtain ⟨x, hx, rfl⟩ := hr
  split at hx
  · rename_i hn
    obtain ⟨h1, _, h2, h3⟩ := symsF_mem hx
    show x.1.toArray.size ≤ 16
    rw [List.size_toArray, h1]
    exact textF_short _ _ _ (by omega) h2 h3
  · cases hx
theorem atR_short (n : Int) (i : Nat) : (atR (rowB n) i).size ≤ 16 := by
  unfold atR
  cases h : (rowB n)[i]? with
  | none => exact Nat.zero_le _
  | some r => exact rowB_short n r (List.mem_of_getElem? h)
/-- The distances of the first k. -/
def distL (R : List ByteArray) (s : ByteArray) (k : Nat) : List Nat := (List.range k).map (dstR R s)
theorem distL_succ (R : List ByteArray) (s : ByteArray) (k : Nat) : distL R s (k + 1) = distL R s k ++ [dstR R s k] := by
  unfold distL
  rw [List.range_succ, List.map_append]
  rfl
theorem distL_length (R : List ByteArray) (s : ByteArray) (k : Nat) : (distL R s k).length = k := by simp [distL]
theorem distL_at (R : List ByteArray) (s : ByteArray) (k i : Nat) (h : i < k) : (distL R s k)[i]? = some (dstR R s i) := by simp [distL, h]
theorem info_near : (Tryd.prog.info? 42).map (fun i => (i.zero, i.size, i.bytes)) = some (some (.agg #[.string ⟨#[]⟩, .int .i64 0, .int .i64 0]), 3, 32) := by kernel_rfl
end Go.Proofs.YtaakaajcpjiccaaDoor
