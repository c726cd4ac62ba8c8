/-
  drachmlaw19.at: how far a symbol lies, of those told.
-/
import Derived.Laws.Bits64b
import Derived.Test.YtaakaajcpjiccaaDoorNa44
set_option linter.unusedVariables false
set_option linter.unusedSimpArgs false
namespace Go.Proofs.YtaakaajcpjiccaaDoor
open Go.RowKit
open Go.Proofs

/-- How far a symbol lies, of those told; below 0: it is none of them. -/
def atN : List NearD → ByteArray → Int
  | [], _ => -1
  | x :: l, s => if x.1 = s then (x.2.1 : Int) else atN l s
theorem atN_drop (L : List NearD) (s : ByteArray) (k : Nat) (h : k < L.length) : atN (L.drop k) s = if (L[k]).1 = s then ((L[k]).2.1 : Int) else atN (L.drop (k + 1)) s := by
  rw [List.drop_eq_getElem_cons h]
  rfl
theorem bytes_beq {a b : ByteArray} : (a.toList == b.toList) = decide (a = b) := by
  by_cases h : a = b
  · subst h; simp
  · have : ¬ a.toList = b.toList := fun e => h (by
      have := congrArg List.toArray e
      rw [ByteArray.toList_eq, ByteArray.toList_eq] at this
      simp only [Array.toArray_toList] at this
      cases a; cases b; simpa using this)
    simp [h, this]
set_option maxRecDepth 100000 in
set_option maxHeartbeats 4000000 in
theorem atN_any (L : List NearD) (s : ByteArray) (a1 : Option Addr) (c1 : Nat) (w : World) (hle : L.length ≤ 100000) (h1 : NeAt w a1 L) : Calls Tryd.prog 17 #[.slice a1 L.length c1, .string s] w fun e w' => e = .returned (.int .i64 (atN L s)) ∧ Below w.heap.size w w' := by
  obtain ⟨V, hV⟩ : ∃ V, atN L s = V := ⟨_, rfl⟩
  obtain ⟨len, hlen⟩ : ∃ l, L.length = l := ⟨_, rfl⟩
  have HV : Hid (atN (L.drop 0) s = V) := hV
  rw [hV]
  clear hV
  have HLEN := Lib.hid hlen
  rw [hlen] at hle ⊢
  clear hlen
  go_enter Tryd.func17, Tryd.ntmps17
  go_wp2_with fail
  go_loopw [5] (fun i wr => ∃ k : Nat, k ≤ len ∧ i = .int .i64 (k : Int) ∧ Below w.heap.size w wr ∧ Hid (atN (L.drop k) s = V)) (fun i _ => len - (intOf i).toNat)
  case atStart => exact ⟨0, by omega, rfl, Below.refl _ _, HV⟩
  case round =>
    obtain ⟨k, hk, rfl, hbw, HVk⟩ := hrel
    have HBW := Lib.hid hbw
    by_cases hlt : k < len
    · have hkl : k < L.length := by rw [HLEN.out]; exact hlt
      have hk1 : (k : Int) < (len : Int) := by omega
      obtain ⟨g1, rfl, p0, p1, p2⟩ := h1.cell k hkl
      have p0' := cell_under p0 hbw
      have p1' := cell_under p1 hbw
      have HVk2 := Lib.hid ((atN_drop L s k hkl).symm.trans HVk.out)
      obtain ⟨x, hx⟩ : ∃ x, L[k] = x := ⟨_, rfl⟩
      rw [hx] at p0' p1' HVk2
      obtain ⟨x1, x2, x3⟩ := x
      simp only at p0' p1'
      clear hx p0 p1 p2 hbw HVk HV
      by_cases he : x1 = s
      · have hq : (x1.toList == s.toList) = true := by rw [bytes_beq]; exact decide_eq_true he
        have HF : Hid ((x2 : Int) = V) := by have := HVk2.out; rw [if_pos he] at this; exact this
        clear HVk2 he
        go_wp2_with fail
        go_ret
        exact ⟨by rw [HF.out]; rfl, HBW.out⟩
      · have hq : (x1.toList == s.toList) = false := by rw [bytes_beq]; exact decide_eq_false he
        have HF : Hid (atN (L.drop (k + 1)) s = V) := by have := HVk2.out; rw [if_neg he] at this; exact this
        clear HVk2 he
        go_wp2_with fail
        go_roundw
        case rel => exact ⟨k + 1, by omega, by simp, HBW.out, HF⟩
        case measure => simp [intOf]; omega
    · obtain rfl : k = len := by omega
      have HF : Hid (-1 = V) := by
        have := HVk.out
        rw [← HLEN.out, List.drop_length] at this
        exact this
      clear hbw HVk HV
      go_wp2_with fail
      go_ret
      exact ⟨by rw [HF.out]; rfl, HBW.out⟩
theorem atN_none : ∀ (l : List NearD) (t : ByteArray), (∀ x ∈ l, x.1 ≠ t) → atN l t = -1
  | [], _, _ => rfl
  | x :: l, t, h => by
    unfold atN
    rw [if_neg (h x (by simp))]
    exact atN_none l t fun y hy => h y (by simp [hy])
theorem atN_some : ∀ (l : List NearD) (t : ByteArray) (d : Nat), (∀ x ∈ l, x.1 = t → x.2.1 = d) → (∃ x ∈ l, x.1 = t) → atN l t = (d : Int)
  | [], _, _, _, h => by obtain ⟨x, h, _⟩ := h; cases h
  | x :: l, t, d, h, he => by
    unfold atN
    by_cases hx : x.1 = t
    · rw [if_pos hx, h x (by simp) hx]
    · rw [if_neg hx]
      refine atN_some l t d (fun y hy => h y (by simp [hy])) ?_
      obtain ⟨y, hy, e⟩ := he
      rcases List.mem_cons.1 hy with rfl | hy
      · exact absurd e hx
      · exact ⟨y, hy, e⟩
theorem atN_near {R : List ByteArray} (hR : R.Nodup) (s : ByteArray) (k j : Nat) (hj : j < R.length) : atN (nearL R s k) (atR R j) = if dstR R s j ≤ k then (dstR R s j : Int) else -1 := by
  have hinj : ∀ r, r < R.length → atR R r = atR R j → r = j := fun r hr e => keys_inj hR hr hj (by rw [keyW_atR, keyW_atR, e])
  split
  · rename_i hd
    refine atN_some _ _ _ (fun x hx e => ?_) ⟨(atR R j, dstR R s j, j), (mem_nearL R s k _).2 ⟨hj, rfl, hd⟩, rfl⟩
    obtain ⟨h1, h2, h3⟩ := (mem_nearL R s k x).1 hx
    rw [h2] at e ⊢
    rw [show x.2.2 = j from hinj _ h1 e]
  · rename_i hd
    refine atN_none _ _ fun x hx e => hd ?_
    obtain ⟨h1, h2, h3⟩ := (mem_nearL R s k x).1 hx
    have h4 : x.2.2 = j := hinj _ h1 (by rw [h2] at e; exact e)
    rw [h4] at h2
    rw [h2] at h3
    exact h3
theorem and3 (k : Int) : 0 ≤ bits BinOp.and IntKind.i64 k 3 ∧ bits BinOp.and IntKind.i64 k 3 ≤ 3 := by
  have h1 : (BitVec.ofInt 64 3).toNat = 3 := by decide
  have h2 : (BitVec.ofInt 64 k &&& BitVec.ofInt 64 3).toNat ≤ 3 := by
    rw [BitVec.toNat_and, h1]
    exact Nat.and_le_right
  have h3 : bits BinOp.and IntKind.i64 k 3 = IntKind.i64.wrap ((BitVec.ofInt 64 k &&& BitVec.ofInt 64 3).toNat : Int) := rfl
  rw [h3]
  generalize (BitVec.ofInt 64 k &&& BitVec.ofInt 64 3).toNat = x at h2
  rw [IntKind.wrap_i64]
  omega
theorem rowB_pos : ∀ n : Int, 1 ≤ n → n ≤ 5 → 0 < (rowB n).length := by
  have hp : ∀ n : Int, (rowB n).isEmpty = false → 0 < (rowB n).length := by
    intro n h
    cases hr : rowB n with
    | nil => rw [hr] at h; cases h
    | cons a l => simp
  intro n h1 h2
  obtain h | h | h | h | h : n = 1 ∨ n = 2 ∨ n = 3 ∨ n = 4 ∨ n = 5 := by omega
  · subst h; exact hp _ (by kernel_rfl)
  · subst h; exact hp _ (by kernel_rfl)
  · subst h; exact hp _ (by kernel_rfl)
  · subst h; exact hp _ (by kernel_rfl)
  · subst h; exact hp _ (by kernel_rfl)
end Go.Proofs.YtaakaajcpjiccaaDoor
