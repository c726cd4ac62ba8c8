/-
  edit: Start, Next, Least, Distance: the walks.
-/
import Derived.WalkKit
import Derived.LoopTactic
import Derived.BigQuiet
import Derived.Deep.QuietTactic
import Derived.StillTailTactics
import Derived.WalkLawsBesides
import Derived.WalkSpells
import Derived.Deep.LoopGhost
import Derived.Lib.Hide
import Derived.Laws.OwnMore
import Derived.IntWalk
import Derived.Deep.RegionHeld3
import Derived.Laws.MakeOwn
import Derived.Test.YtaakaajcpjiccaaDoorNa08
import Derived.Test.YtaakaajcpjiccaaDoorNa16
set_option linter.unusedVariables false
set_option linter.unusedSimpArgs false
namespace Go.Proofs.YtaakaajcpjiccaaDoor
open Go.RowKit
open Go.Proofs

/-- Numbers as cells. -/
def natsV (xs : List Nat) : List Value := xs.map fun (n : Nat) => .int .i64 (n : Int)
theorem natsV_length (xs : List Nat) : (natsV xs).length = xs.length := by simp [natsV]
theorem natsV_at (xs : List Nat) (i : Nat) (n : Nat) (h : xs[i]? = some n) : (natsV xs)[i]? = some (.int .i64 (n : Int)) := by simp [natsV, h]
/-- A row of numbers of the call's own. -/
def OwnN (w : World) (B : Nat) (v : Value) (xs : List Nat) : Prop := w.ownsRow B 3 1 v xs.length (natsV xs)
/-- A row of numbers that lies in a block. -/
def RowN (w : World) (a : Option Addr) (xs : List Nat) : Prop := ∃ b off, a = some ⟨b, off, none⟩ ∧ w.rangeAt b off (natsV xs) ∧ b < w.heap.size
theorem RowN.below {w w' : World} {a : Option Addr} {xs : List Nat} (h : RowN w a xs) (hb : Below w.heap.size w w') : RowN w' a xs := by
  obtain ⟨b, off, h1, h2, h3⟩ := h
  exact ⟨b, off, h1, fun j v hj => (hb.cell (p := ⟨b, off + j, none⟩) h3).trans (h2 j v hj), Nat.lt_of_lt_of_le h3 hb.size⟩
theorem OwnN.row {w : World} {B : Nat} {v : Value} {xs : List Nat} (h : OwnN w B v xs) (hn : xs ≠ []) : ∃ g cap, v = .slice (some ⟨g, 0, none⟩) xs.length cap ∧ RowN w (some ⟨g, 0, none⟩) xs := by
  have hp : 0 < xs.length := List.length_pos_iff.2 hn
  obtain ⟨g, cap, rfl⟩ := form_of h hp
  refine ⟨g, cap, rfl, g, 0, rfl, ?_, (World.ownsRow.lt h g rfl).2⟩
  have := rangeOf h 0 xs.length (natsV xs) (by rw [List.drop_zero, List.take_of_length_le]; rw [natsV_length]; exact Nat.le_refl _)
  exact this
theorem info_I : (Tryd.prog.info? 3).map (fun i => (i.zero, i.size, i.bytes)) = some (some (.int .i64 0), 1, 8) := by kernel_rfl
theorem make_ints (n : Nat) (hn : n ≤ 10000000) (w : World) : (Instr.makeSlice 54 (.int .i64 (n : Int)) (.int .i64 (n : Int))).run Tryd.prog w = .ok (.slice (some ⟨w.heap.size, 0, none⟩) n n) (w.alloc (.cells (madeCells #[.int .i64 0] n) 3)) := by
  obtain ⟨i0, hi, hz0, hz1, hz2⟩ := info_parts info_I
  have := run_make (P := Tryd.prog) w 54 3 i0 _ Tryd.underlying54 hi hz0 .i64 .i64 n n (by omega) (Int.le_refl _) (by rw [hz2]; omega) (by omega)
  simp only [Int.toNat_natCast, hz1, Nat.mul_one] at this
  exact this
theorem made_nats (w : World) (n : Nat) (hn : n ≤ 10000000) : OwnN (w.alloc (.cells (madeCells #[.int .i64 0] n) 3)) w.heap.size (.slice (some ⟨w.heap.size, 0, none⟩) n n) (List.replicate n 0) := by
  have h := World.ownsRow_lit (base := w.heap.size) (size := 1) w (madeCells #[Value.int .i64 0] n) (e := 3) n (Nat.le_refl _) (by unfold maxLen; omega) (by simp [size_madeCells])
  unfold OwnN
  have e : natsV (List.replicate n 0) = (madeCells #[Value.int .i64 0] n).toList := by rw [toList_madeCells_one]; simp [natsV]
  rw [e, List.length_replicate]
  exact h
theorem OwnN.stored {w : World} {B g n cap : Nat} {xs : List Nat} (h : OwnN w B (.slice (some ⟨g, 0, none⟩) n cap) xs) (j : Nat) (u : Nat) : OwnN (w.setCell ⟨g, j, none⟩ (.int .i64 (u : Int))) B (.slice (some ⟨g, 0, none⟩) n cap) (xs.set j u) := by
  unfold OwnN at h ⊢
  obtain ⟨g', cap', e⟩ : ∃ g' cap', (Value.slice (some ⟨g, 0, none⟩) n cap) = .slice (some ⟨g', 0, none⟩) xs.length cap' ∨ xs.length = 0 := by
    by_cases hx : 0 < xs.length
    · obtain ⟨g', cap', e⟩ := form_of h hx
      exact ⟨g', cap', .inl e⟩
    · exact ⟨0, 0, .inr (by omega)⟩
  rcases h.2 with ⟨h1, _⟩ | ⟨g2, cap2, cur, h1, _⟩
  · simp at h1
  · simp only [Value.slice.injEq, Option.some.injEq, Addr.mk.injEq, and_true, true_and] at h1
    obtain ⟨rfl, rfl, rfl⟩ := h1
    have := (World.ownsRow.stored h j (.int .i64 (u : Int))).1
    rw [List.length_set]
    have e2 : natsV (xs.set j u) = (natsV xs).set j (.int .i64 (u : Int)) := by simp [natsV, List.map_set]
    rw [e2]
    exact this
theorem OwnN.at {w : World} {B g n cap : Nat} {xs : List Nat} (h : OwnN w B (.slice (some ⟨g, 0, none⟩) n cap) xs) (j : Nat) (u : Nat) (hj : xs[j]? = some u) : w.cell? ⟨g, j, none⟩ = some (.int .i64 (u : Int)) ∧ w.frozen? ⟨g, j, none⟩ = false ∧ B ≤ g ∧ g < w.heap.size := by
  have hl := World.ownsRow.lt h g rfl
  have hc := World.ownsRow.cells h (g := g) rfl j _ (natsV_at xs j u hj)
  rw [addPlain] at hc
  rcases h.2 with ⟨h1, _⟩ | ⟨g2, cap2, cur, h1, _⟩
  · simp at h1
  · simp only [Value.slice.injEq, Option.some.injEq, Addr.mk.injEq, and_true, true_and] at h1
    obtain ⟨rfl, rfl, rfl⟩ := h1
    exact ⟨hc, World.ownsRow.frozenAt h j, hl.1, hl.2⟩
/-- 0, 1, .. to k, then noughts. -/
def upTo (n k : Nat) : List Nat := (List.range n).map fun i => if i < k then i else 0
theorem upTo_length (n k : Nat) : (upTo n k).length = n := by simp [upTo]
theorem upTo_at (n k i : Nat) (h : i < n) : (upTo n k)[i]? = some (if i < k then i else 0) := by
  unfold upTo
  rw [List.getElem?_map, List.getElem?_range h]
  rfl
theorem upTo_zero (n : Nat) : upTo n 0 = List.replicate n 0 := by
  apply List.ext_getElem?
  intro i
  by_cases h : i < n
  · rw [upTo_at n 0 i h, List.getElem?_replicate, if_pos h]; simp
  · rw [List.getElem?_eq_none (by rw [upTo_length]; omega), List.getElem?_eq_none (by simp; omega)]
theorem upTo_succ (n k : Nat) : (upTo n k).set k k = upTo n (k + 1) := by
  apply List.ext_getElem?
  intro i
  rw [List.getElem?_set]
  by_cases h : i < n
  · by_cases e : k = i
    · subst e
      rw [if_pos rfl, if_pos (by rw [upTo_length]; exact h), upTo_at _ _ _ h, if_pos (by omega)]
    · rw [if_neg e, upTo_at _ _ _ h, upTo_at _ _ _ h]
      by_cases h2 : i < k
      · rw [if_pos h2, if_pos (by omega)]
      · rw [if_neg h2, if_neg (by omega)]
  · rw [List.getElem?_eq_none (by rw [upTo_length]; omega : (upTo n (k + 1)).length ≤ i)]
    split
    · rw [if_neg (by rw [upTo_length]; omega)]
    · rw [List.getElem?_eq_none (by rw [upTo_length]; omega)]
theorem upTo_full (n : Nat) : upTo n n = List.range n := by
  apply List.ext_getElem?
  intro i
  by_cases h : i < n
  · rw [upTo_at n n i h, if_pos h, List.getElem?_range h]
  · rw [List.getElem?_eq_none (by rw [upTo_length]; omega), List.getElem?_eq_none (by simp; omega)]
theorem row_start (w : List UInt8) : rowR w [] = List.range (w.length + 1) := by
  apply List.ext_getElem?
  intro i
  by_cases h : i < w.length + 1
  · rw [rowR_at w [] i (by omega), List.getElem?_range h, levR_nil2, List.length_reverse, List.length_take, Nat.min_eq_left (by omega)]
  · rw [List.getElem?_eq_none (by rw [rowR_length]; omega), List.getElem?_eq_none (by simp; omega)]
theorem size_list (s : ByteArray) : s.toList.length = s.size := by rw [ByteArray.toList_eq]; rfl
def RowOk (w : World) (xs : List Nat) (e : Ending) (w' : World) : Prop := ∃ v, e = .returned v ∧ OwnN w' w.heap.size v xs ∧ Below w.heap.size w w'
set_option maxRecDepth 100000 in
set_option maxHeartbeats 2000000 in
theorem start_any (s : ByteArray) (w : World) (hs : s.size ≤ 100000) : Calls Tryd.prog 32 #[.string s] w (RowOk w (rowR s.toList [])) := by
  have hmk := make_ints (s.size + 1) (by omega)
  have hmk2 : ∀ w : World, (Instr.makeSlice 54 (.int .i64 ((s.size : Int) + 1)) (.int .i64 ((s.size : Int) + 1))).run Tryd.prog w = .ok (.slice (some ⟨w.heap.size, 0, none⟩) (s.size + 1) (s.size + 1)) (w.alloc (.cells (madeCells #[.int .i64 0] (s.size + 1)) 3)) := fun w => hmk w
  clear hmk
  have HR : Hid (rowR s.toList [] = upTo (s.size + 1) (s.size + 1)) := by
    show _ = _
    rw [row_start, upTo_full, size_list]
  go_enter Tryd.func32, Tryd.ntmps32
  go_wp2_with fail
  go_loopw [4, 11] (fun _ i wr => ∃ k : Nat, k ≤ s.size + 1 ∧ i = .int .i64 (k : Int) ∧ OwnN wr w.heap.size (.slice (some ⟨w.heap.size, 0, none⟩) (s.size + 1) (s.size + 1)) (upTo (s.size + 1) k) ∧ Below w.heap.size w wr) (fun _ i _ => s.size + 1 - (intOf i).toNat)
  case atStart => exact ⟨0, by omega, rfl, by rw [upTo_zero]; exact made_nats w _ (by omega), (Below.refl _ _).alloc (Nat.le_refl _) _⟩
  case round =>
    obtain ⟨k, hk, rfl, ho, hb⟩ := hrel
    have HO := Lib.hid ho
    have HB := Lib.hid hb
    clear ho hb
    by_cases hlt : k < s.size + 1
    · have hltd : decide ((k : Int) < (s.size : Int) + 1) = true := by simp; omega
      obtain ⟨c0, f0, _, _⟩ := HO.out.at k 0 (by rw [upTo_at _ _ _ hlt, if_neg (by omega)])
      go_wp2_with fail
      go_roundw
      case rel => exact ⟨k + 1, by omega, by go_num, by rw [← upTo_succ]; exact HO.out.stored k k, HB.out.setCell (p := ⟨w.heap.size, k, none⟩) (Nat.le_refl _) _⟩
      case measure => simp [intOf]; omega
    · have hltd : decide ((k : Int) < (s.size : Int) + 1) = false := by simp; omega
      obtain rfl : k = s.size + 1 := by omega
      go_wp2_with fail
      go_ret
      exact ⟨_, rfl, by rw [HR.out]; exact HO.out, HB.out⟩
theorem RowN.drewN {w : World} {a : Option Addr} {xs : List Nat} (h : RowN w a xs) (n : Nat) : RowN (w.drewN n) a xs := h.below (below_drewN (Below.refl _ _) _)
theorem RowN.at {w : World} {b off : Nat} {xs : List Nat} (h : w.rangeAt b off (natsV xs)) (j : Nat) (u : Nat) (hj : xs[j]? = some u) : w.cell? ⟨b, off + j, none⟩ = some (.int .i64 (u : Int)) := h j _ (natsV_at xs j u hj)
theorem foldl_take (xs : List Nat) (n k u : Nat) (h : xs[k]? = some u) : (xs.take (k + 1)).foldl min n = min ((xs.take k).foldl min n) u := by
  obtain ⟨hk, rfl⟩ := List.getElem?_eq_some_iff.1 h
  rw [List.take_succ_eq_append_getElem hk, List.foldl_append]
  rfl
theorem foldl_le (xs : List Nat) : ∀ n, xs.foldl min n ≤ n := by
  induction xs with
  | nil => intro n; exact Nat.le_refl _
  | cons x r ih => intro n; exact Nat.le_trans (ih _) (Nat.min_le_left _ _)
set_option maxRecDepth 100000 in
set_option maxHeartbeats 2000000 in
theorem least_any (n : Nat) (xs : List Nat) (a : Option Addr) (cap : Nat) (w : World) (hx : xs.length ≤ 1000000) (hn : n ≤ 1000000000) (hb : ∀ x ∈ xs, x ≤ 1000000000) (hA : xs = [] ∨ RowN w a xs) :
    Calls Tryd.prog 48 #[.int .i64 (n : Int), .slice a xs.length cap] w fun e w' => e = .returned (.int .i64 (xs.foldl min n : Nat)) ∧ w = w' := by
  have HA := Lib.hid hA
  have HB := Lib.hid hb
  clear hA hb
  go_enter Tryd.func48, Tryd.ntmps48
  go_wp2_with fail
  go_loop [0, 6, 9] (fun m _ i => ∃ (k q : Nat), k ≤ xs.length ∧ i = .int .i64 (k : Int) ∧ m = .int .i64 (q : Int) ∧ q ≤ 1000000000 ∧ (xs.take k).foldl min n = q) (fun _ _ i => xs.length - (intOf i).toNat)
  case atStart => exact ⟨0, n, by omega, rfl, rfl, hn, rfl⟩
  case round =>
    obtain ⟨k, q, hk, rfl, rfl, hq, hf⟩ := hrel
    have HF := Lib.hid hf
    clear hf
    by_cases hlt : k < xs.length
    · have hltd : decide ((k : Int) < (xs.length : Int)) = true := by simp; omega
      obtain ⟨u, hu⟩ : ∃ u, xs[k]? = some u := ⟨xs[k], List.getElem?_eq_getElem hlt⟩
      have hub : u ≤ 1000000000 := HB.out u (List.mem_of_getElem? hu)
      obtain ⟨b, off, rfl, hr, hbl⟩ : RowN w a xs := by
        rcases HA.out with rfl | h
        · simp at hlt
        · exact h
      have hc := RowN.at hr k u hu
      have HU := Lib.hid hu
      clear hu hr
      go_wp2_with fail
      go_round
      case rel =>
        refine ⟨k + 1, min q u, by omega, by go_num, ?_, by omega, by rw [foldl_take _ _ _ _ HU.out, HF.out]⟩
        have e : (if u < q then (u : Int) else (q : Int)) = ((min q u : Nat) : Int) := by split <;> omega
        rw [e]
      case measure => simp [intOf]; omega
    · have hltd : decide ((k : Int) < (xs.length : Int)) = false := by simp; omega
      obtain rfl : k = xs.length := by omega
      go_wp2_with fail
      go_ret
      exact ⟨by rw [show xs.foldl min n = q by rw [← HF.out, List.take_length]]; rfl, rfl⟩
/-- The least of a row. -/
def leastN (xs : List Nat) : Nat := xs.tail.foldl min (xs.headD 0)
set_option maxRecDepth 100000 in
set_option maxHeartbeats 2000000 in
theorem Least_any (xs : List Nat) (g cap : Nat) (w : World) (hx : xs.length ≤ 1000000) (hcap : xs.length ≤ cap) (h0 : xs ≠ []) (hb : ∀ x ∈ xs, x ≤ 1000000000) (hA : RowN w (some ⟨g, 0, none⟩) xs) :
    Calls Tryd.prog 51 #[.slice (some ⟨g, 0, none⟩) xs.length cap] w fun e w' => e = .returned (.int .i64 (leastN xs : Nat)) ∧ ∃ n, w' = w.drewN n := by
  obtain ⟨x, r, rfl⟩ : ∃ x r, xs = x :: r := by
    cases xs with
    | nil => exact (h0 rfl).elim
    | cons x r => exact ⟨x, r, rfl⟩
  obtain ⟨b, off, hbo, hr, hbl⟩ := hA
  simp only [Option.some.injEq, Addr.mk.injEq, and_true] at hbo
  obtain ⟨rfl, rfl⟩ := hbo
  have hc : w.cell? ⟨g, 0, none⟩ = some (.int .i64 (x : Int)) := RowN.at hr 0 x rfl
  have HR : Hid (r = [] ∨ RowN w (some ⟨g, 1, none⟩) r) := .inr ⟨g, 1, rfl, fun j v hj => by
    have := hr (j + 1) v (by simpa [natsV] using hj)
    rw [show 0 + (j + 1) = 1 + j by omega] at this
    exact this, hbl⟩
  have hxb := hb x (by simp)
  have HB := Lib.hid (fun (y : Nat) (hy : y ∈ r) => hb y (by simp [hy]))
  simp only [List.length_cons] at hx hcap ⊢
  have hne : (((r.length : Int) + 1) == 0) = false := by simp; omega
  clear hb hr h0
  go_enter Tryd.func51, Tryd.ntmps51
  go_wp2_with fail
  by_cases h1 : cap = 1
  · subst h1
    obtain rfl : r = [] := List.eq_nil_of_length_eq_zero (by omega)
    go_quiet ((go_at_call 48; exact Calls.quiet_of_same ((least_any x [] (some ⟨g, 0, none⟩) 0 _ (by simp) hxb (by simp) (.inl rfl)).mono fun e w' h => ⟨h.1, h.2.symm⟩)))
    go_wp2_with fail
    go_ret
    exact ⟨rfl, _, rfl⟩
  · have hcap1 : 1 < cap := by omega
    go_quiet ((go_at_call 48; exact Calls.quiet_of_same ((least_any x r (some ⟨g, 1, none⟩) (cap - 1) _ (by omega) hxb HB.out (HR.out.imp id (fun h => h.drewN _))).mono fun e w' h => ⟨h.1, h.2.symm⟩)))
    go_wp2_with fail
    go_ret
    exact ⟨rfl, _, rfl⟩
/-- A byte held against another one. -/
def chN (x : Nat) (a c : UInt8) : Nat := if a = c then x else x + 1
set_option maxRecDepth 100000 in
set_option maxHeartbeats 2000000 in
theorem changed_any (s : ByteArray) (c : UInt8) (xs : List Nat) (g cap i x : Nat) (Wb Cb Rb : Nat) (w : World) (hs : s.size ≤ 100000) (hi : i < s.size) (hx : xs[i]? = some x) (hxb : x ≤ 1000000000) (hW : w.cell? ⟨Wb, 0, none⟩ = some (.string s)) (hC : w.cell? ⟨Cb, 0, none⟩ = some (.int .u8 (c.toNat : Int))) (hR : w.cell? ⟨Rb, 0, none⟩ = some (.slice (some ⟨g, 0, none⟩) xs.length cap)) (hA : RowN w (some ⟨g, 0, none⟩) xs) :
    Calls Tryd.prog 47 #[.int .i64 (i : Int), .pointer (some ⟨Wb, 0, none⟩), .pointer (some ⟨Cb, 0, none⟩), .pointer (some ⟨Rb, 0, none⟩)] w fun e w' => e = .returned (.int .i64 (chN x s[i] c : Int)) ∧ ∃ n, w' = w.drewN n := by
  obtain ⟨b, off, hbo, hr, hbl⟩ := hA
  simp only [Option.some.injEq, Addr.mk.injEq, and_true] at hbo
  obtain ⟨rfl, rfl⟩ := hbo
  have hc : w.cell? ⟨g, i, none⟩ = some (.int .i64 (x : Int)) := by have := RowN.at hr i x hx; rwa [Nat.zero_add] at this
  have hil : i < xs.length := (List.getElem?_eq_some_iff.1 hx).1
  have hii : (i : Int) < (xs.length : Int) := by omega
  have hsi : (i : Int) < (s.size : Int) := by omega
  have hi0 : 0 ≤ (i : Int) := Int.natCast_nonneg _
  have hx1 : (x : Int) ≤ 1000000000 := by omega
  have HX := Lib.hid hx
  clear hr hx
  by_cases h : s[i] = c
  · have hb : (((s[i].toNat : Nat) : Int) == ((c.toNat : Nat) : Int)) = true := by rw [h]; simp
    have HV : Hid (chN x s[i] c = x) := by show _ = _; rw [chN, if_pos h]
    clear h
    go_enter Tryd.func47, Tryd.ntmps47
    go_wp2_with fail
    go_quiet (fail)
    go_wp2_with fail
    go_ret
    exact ⟨by rw [HV.out]; rfl, _, rfl⟩
  · have hb : (((s[i].toNat : Nat) : Int) == ((c.toNat : Nat) : Int)) = false := by
      have : s[i].toNat ≠ c.toNat := fun e => h (UInt8.toNat_inj.1 e)
      simp; omega
    have HV : Hid (chN x s[i] c = x + 1) := by show _ = _; rw [chN, if_neg h]
    clear h
    go_enter Tryd.func47, Tryd.ntmps47
    go_wp2_with fail
    go_quiet (fail)
    go_wp2_with fail
    go_ret
    exact ⟨by rw [HV.out]; go_num, _, rfl⟩
theorem alloc_nats (w : World) (cs : Array Value) (xs : List Nat) (n B : Nat) (hn : n = xs.length) (h : cs.toList = natsV xs) (hm : xs.length ≤ 10000000) (hB : B ≤ w.heap.size) : OwnN (w.alloc (.cells cs 3)) B (.slice (some ⟨w.heap.size, 0, none⟩) n n) xs := by
  subst hn
  have hs : cs.size = xs.length * 1 := by rw [Nat.mul_one, ← natsV_length, ← h, Array.length_toList]
  have := World.ownsRow_lit (base := B) (size := 1) w cs (e := 3) xs.length hB (by unfold maxLen; omega) hs
  unfold OwnN
  rw [← h]
  exact this
theorem made_list (n : Nat) : (madeCells #[Value.int .i64 0] n).toList = natsV (List.replicate n 0) := by rw [toList_madeCells_one]; simp [natsV]
theorem lit_row (W : World) (a b : Nat) (g : Nat) (hg : g = W.heap.size) : RowN (W.alloc (.cells #[.int .i64 ((a : Int) + 1), .int .i64 ((b : Int) + 1)] 3)) (some ⟨g, 0, none⟩) [a + 1, b + 1] := by
  subst hg
  refine ⟨W.heap.size, 0, rfl, fun j v hj => ?_, by simp⟩
  rw [Nat.zero_add]
  refine cellNew W _ _ j v ?_
  rcases j with _ | _ | j
  · exact hj
  · exact hj
  · simp [natsV] at hj
theorem list_at8 (s : ByteArray) : s.toList.length = s.size ∧ ∀ j (h : j < s.size) (h2 : j < s.toList.length), s.toList[j] = s[j]'h := by
  refine ⟨size_list s, fun j h h2 => ?_⟩
  simp only [ByteArray.toList_eq]
  rfl
theorem keep_far {w : World} {p a : Addr} {v u : Value} (h : w.cell? a = some v) (hne : p ≠ a) : (w.setCell p u).cell? a = some v := (World.cell?_setCell_other (h := hne) ..).trans h
theorem own_base {w : World} {B B' : Nat} {e : TypeId} {z : Nat} {v : Value} {n : Nat} {xs : List Value} (h : w.ownsRow B e z v n xs) (hB : B' ≤ B) : w.ownsRow B' e z v n xs :=
  ⟨h.1, h.2.imp id fun ⟨g, cap, cur, a, b, r⟩ => ⟨g, cap, cur, a, Nat.le_trans hB b, r⟩⟩
/-- The row behind a byte more, to k; then noughts. -/
def nextTo (w t : List UInt8) (c : UInt8) (k : Nat) : List Nat := (List.range (w.length + 1)).map fun i => if i ≤ k then levR (w.take i).reverse (c :: t) else 0
theorem nextTo_length (w t : List UInt8) (c : UInt8) (k : Nat) : (nextTo w t c k).length = w.length + 1 := by simp [nextTo]
theorem nextTo_at (w t : List UInt8) (c : UInt8) (k i : Nat) (h : i ≤ w.length) : (nextTo w t c k)[i]? = some (if i ≤ k then levR (w.take i).reverse (c :: t) else 0) := by
  unfold nextTo
  rw [List.getElem?_map, List.getElem?_range (by omega)]
  rfl
theorem nextTo_zero (w t : List UInt8) (c : UInt8) : (List.replicate (w.length + 1) 0).set 0 (levR (w.take 0).reverse t + 1) = nextTo w t c 0 := by
  apply List.ext_getElem?
  intro i
  rw [List.getElem?_set]
  by_cases h : i ≤ w.length
  · by_cases e : 0 = i
    · subst e
      rw [if_pos rfl, if_pos (by simp), nextTo_at _ _ _ _ _ h, if_pos (Nat.le_refl _), row_next0]
    · rw [if_neg e, nextTo_at _ _ _ _ _ h, List.getElem?_replicate, if_pos (by omega), if_neg (by omega)]
  · rw [List.getElem?_eq_none (by rw [nextTo_length]; omega : (nextTo w t c 0).length ≤ i), if_neg (by omega), List.getElem?_eq_none (by simp; omega)]
theorem nextTo_succ (w t : List UInt8) (c : UInt8) (k : Nat) (h : k < w.length) : (nextTo w t c k).set (k + 1) (levR (w.take (k + 1)).reverse (c :: t)) = nextTo w t c (k + 1) := by
  apply List.ext_getElem?
  intro i
  rw [List.getElem?_set]
  by_cases hi : i ≤ w.length
  · by_cases e : k + 1 = i
    · subst e
      rw [if_pos rfl, if_pos (by rw [nextTo_length]; omega), nextTo_at _ _ _ _ _ hi, if_pos (Nat.le_refl _)]
    · rw [if_neg e, nextTo_at _ _ _ _ _ hi, nextTo_at _ _ _ _ _ hi]
      by_cases h2 : i ≤ k
      · rw [if_pos h2, if_pos (by omega)]
      · rw [if_neg h2, if_neg (by omega)]
  · rw [List.getElem?_eq_none (by rw [nextTo_length]; omega : (nextTo w t c (k + 1)).length ≤ i), if_neg (by omega), List.getElem?_eq_none (by rw [nextTo_length]; omega)]
theorem nextTo_full (w t : List UInt8) (c : UInt8) : nextTo w t c w.length = rowR w (c :: t) := by
  apply List.ext_getElem?
  intro i
  by_cases hi : i ≤ w.length
  · rw [nextTo_at _ _ _ _ _ hi, if_pos hi, rowR_at _ _ _ hi]
  · rw [List.getElem?_eq_none (by rw [nextTo_length]; omega), List.getElem?_eq_none (by rw [rowR_length]; omega)]
theorem next_val (w t : List UInt8) (c : UInt8) (k : Nat) (h : k < w.length) : [levR (w.take (k + 1)).reverse t + 1, levR (w.take k).reverse (c :: t) + 1].foldl min (chN (levR (w.take k).reverse t) w[k] c) = levR (w.take (k + 1)).reverse (c :: t) := by
  rw [row_next w t c k h]
  simp only [List.foldl_cons, List.foldl_nil, chN]
  split <;> omega
set_option maxRecDepth 100000 in
set_option maxHeartbeats 4000000 in
theorem next_any (s : ByteArray) (t : List UInt8) (c : UInt8) (g cap : Nat) (w : World) (hs : s.size ≤ 100000) (ht : t.length ≤ 1000000) (hcap : s.size + 1 ≤ cap) (hA : RowN w (some ⟨g, 0, none⟩) (rowR s.toList t)) :
    Calls Tryd.prog 33 #[.string s, .slice (some ⟨g, 0, none⟩) (s.size + 1) cap, .int .u8 (c.toNat : Int)] w (RowOk w (rowR s.toList (c :: t))) := by
  have hmk := make_ints (s.size + 1) (by omega)
  have hmk2 : ∀ w : World, (Instr.makeSlice 54 (.int .i64 ((s.size : Int) + 1)) (.int .i64 ((s.size : Int) + 1))).run Tryd.prog w = .ok (.slice (some ⟨w.heap.size, 0, none⟩) (s.size + 1) (s.size + 1)) (w.alloc (.cells (madeCells #[.int .i64 0] (s.size + 1)) 3)) := fun w => hmk w
  have HA := Lib.hid hA
  have hsz := size_list s
  have HLEN : Hid ((rowR s.toList t).length = s.size + 1) := by show _ = _; rw [rowR_length, hsz]
  obtain ⟨b, off, hbo, hr, hbl⟩ := hA
  simp only [Option.some.injEq, Addr.mk.injEq, and_true] at hbo
  obtain ⟨rfl, rfl⟩ := hbo
  have HR := Lib.hid hr
  have hc0 : w.cell? ⟨g, 0, none⟩ = some (.int .i64 (levR (s.toList.take 0).reverse t : Nat)) := RowN.at hr 0 _ (rowR_at _ _ _ (Nat.zero_le _))
  have hbd0 := row_bd s.toList t 0
  obtain ⟨x0, hx0⟩ : ∃ x, levR (s.toList.take 0).reverse t = x := ⟨_, rfl⟩
  rw [hx0] at hc0 hbd0
  have hx0b : (x0 : Int) ≤ 1000000000 := by omega
  have HX0 := Lib.hid hx0
  have HSZ := Lib.hid hsz
  have hz1 : 0 < s.size + 1 := by omega
  have hbl1 : g < w.heap.size + 1 := by omega
  have hbl2 : g < w.heap.size + 1 + 1 := by omega
  have hbl3 : g < w.heap.size + 1 + 1 + 1 := by omega
  clear hmk hr hx0 hsz
  obtain ⟨f0, f0'⟩ : ((madeCells #[Value.int .i64 0] (s.size + 1))[0]? = some (.int .i64 0)) ∧ True := ⟨by
    have := congrArg (fun l : List Value => l[0]?) (toList_madeCells_one (.int .i64 0) (s.size + 1))
    simpa using this, trivial⟩
  go_enter Tryd.func33, Tryd.ntmps33
  go_wp2_with fail
  generalize hW3 : (((w.alloc (.cells #[.string s] 9)).alloc (.cells #[.slice (some ⟨g, 0, none⟩) (s.size + 1) cap] 54)).alloc (.cells #[.int .u8 (c.toNat : Int)] 5)) = W3
  have hz : W3.heap.size = w.heap.size + 3 := by rw [← hW3]; simp
  have bW : W3.cell? ⟨w.heap.size, 0, none⟩ = some (.string s) := by rw [← hW3]; exact cellAlloc _ (cellAlloc _ (cellNew w _ _ 0 _ rfl))
  have bR : W3.cell? ⟨w.heap.size + 1, 0, none⟩ = some (.slice (some ⟨g, 0, none⟩) (s.size + 1) cap) := by
    rw [← hW3]
    have := cellNew (w.alloc (.cells #[.string s] 9)) #[.slice (some ⟨g, 0, none⟩) (s.size + 1) cap] 54 0 _ rfl
    rw [World.size_alloc] at this
    exact cellAlloc _ this
  have bC : W3.cell? ⟨w.heap.size + 1 + 1, 0, none⟩ = some (.int .u8 (c.toNat : Int)) := by
    rw [← hW3]
    have := cellNew ((w.alloc (.cells #[.string s] 9)).alloc (.cells #[.slice (some ⟨g, 0, none⟩) (s.size + 1) cap] 54)) #[.int .u8 (c.toNat : Int)] 5 0 _ rfl
    rw [World.size_alloc, World.size_alloc] at this
    exact this
  have W03 : Below w.heap.size w W3 := by rw [← hW3]; exact (((Below.refl _ _).alloc (Nat.le_refl _) _).alloc (by simp) _).alloc (by simp; omega) _
  have HRW := Lib.hid (HA.out.below W03)
  have HW03 := Lib.hid W03
  have HBW := Lib.hid bW
  have HBR := Lib.hid bR
  have HBC := Lib.hid bC
  clear bW bR bC W03 hW3
  go_loopw [9, 28] (fun _ i wr => ∃ k : Nat, k ≤ s.size ∧ i = .int .i64 (k : Int) ∧ OwnN wr W3.heap.size (.slice (some ⟨w.heap.size + 1 + 1 + 1, 0, none⟩) (s.size + 1) (s.size + 1)) (nextTo s.toList t c k) ∧ Below W3.heap.size W3 wr) (fun _ i _ => s.size - (intOf i).toNat)
  case atStart =>
    refine ⟨0, by omega, rfl, ?_, (Below.refl _ _).alloc (Nat.le_refl _) _⟩
    have hz' : w.heap.size + 1 + 1 + 1 = W3.heap.size := hz.symm
    rw [hz', ← nextTo_zero, HX0.out, HSZ.out]
    refine alloc_nats W3 _ _ _ _ (by simp) ?_ (by simp; omega) (Nat.le_refl _)
    rw [Array.toList_setIfInBounds, made_list]
    simp [natsV, List.map_set]
  case round =>
    obtain ⟨k, hk, rfl, ho, hb⟩ := hrel
    have HO := Lib.hid ho
    have HB := Lib.hid hb
    clear ho hb
    by_cases hlt : k < s.size
    · have hltd : decide ((k : Int) < (s.size : Int)) = true := by simp; omega
      have hkl : k < s.toList.length := by rw [HSZ.out]; exact hlt
      obtain ⟨x, hx⟩ : ∃ x, levR (s.toList.take k).reverse t = x := ⟨_, rfl⟩
      obtain ⟨y, hy⟩ : ∃ x, levR (s.toList.take (k + 1)).reverse t = x := ⟨_, rfl⟩
      obtain ⟨z, hz⟩ : ∃ x, levR (s.toList.take k).reverse (c :: t) = x := ⟨_, rfl⟩
      have b1 := row_bd s.toList t k
      have b2 := row_bd s.toList t (k + 1)
      have b3 := row_bd s.toList (c :: t) k
      rw [hx, HSZ.out] at b1
      rw [hy, HSZ.out] at b2
      rw [hz, HSZ.out, List.length_cons] at b3
      obtain ⟨u, hu⟩ : ∃ u, levR (s.toList.take (k + 1)).reverse (c :: t) = u := ⟨_, rfl⟩
      have b4 := row_bd s.toList (c :: t) (k + 1)
      rw [hu, HSZ.out, List.length_cons] at b4
      have hgetk : s.toList[k] = s[k] := (list_at8 s).2 k hlt hkl
      have HV := Lib.hid (next_val s.toList t c k hkl)
      rw [hx, hy, hz, hu, hgetk] at HV
      have HU := Lib.hid hu
      have u1 : (u : Int) ≤ 1000000000 := by omega
      clear hgetk hu
      have HXR : Hid ((rowR s.toList t)[k]? = some x) := by show _ = _; rw [rowR_at _ _ _ (by omega), hx]
      have HYR : Hid ((rowR s.toList t)[k + 1]? = some y) := by show _ = _; rw [rowR_at _ _ _ (by omega), hy]
      have HRWW := Lib.hid (HRW.out.below HB.out)
      obtain ⟨b, off, hbo, hr, _⟩ := HRWW.out
      simp only [Option.some.injEq, Addr.mk.injEq, and_true] at hbo
      obtain ⟨rfl, rfl⟩ := hbo
      have cy : wr.cell? ⟨g, k + 1, none⟩ = some (.int .i64 (y : Int)) := by have := RowN.at hr (k + 1) y HYR.out; rwa [Nat.zero_add] at this
      obtain ⟨cz, fz, _, _⟩ := HO.out.at k z (by rw [nextTo_at _ _ _ _ _ (by omega), if_pos (Nat.le_refl _), hz])
      obtain ⟨cn, fn, _, hgl⟩ := HO.out.at (k + 1) 0 (by rw [nextTo_at _ _ _ _ _ (by omega), if_neg (by omega)])
      have eW := cell_under HBW.out HB.out
      have eR := cell_under HBR.out HB.out
      have eC := cell_under HBC.out HB.out
      have hwl : w.heap.size < wr.heap.size := by omega
      have HCH := Lib.hid (fun (X : World) (hb : Below wr.heap.size wr X) => (changed_any s c (rowR s.toList t) g cap k x w.heap.size (w.heap.size + 1 + 1) (w.heap.size + 1) X (by omega) hlt HXR.out (by omega) (cell_under eW hb) (cell_under eC hb) (by rw [HLEN.out]; exact cell_under eR hb) (HRWW.out.below hb)))
      have hk1 : (k : Int) < 100000 := by omega
      clear hr hx hy hz
      have y1 : (y : Int) ≤ 1000000000 := by omega
      have z1 : (z : Int) ≤ 1000000000 := by omega
      have hchb : chN x s[k] c ≤ 1000000000 := by unfold chN; split <;> omega
      go_wp2_with fail
      have v1 : IntKind.i64.wrap ((k : Int) + 1) = (k : Int) + 1 := IntWalk.i64_in _ (by omega)
      have v2 : 0 ≤ (k : Int) + 1 := by omega
      have v3 : ((k : Int) + 1).toNat = k + 1 := by omega
      have v4 : IntKind.i64.wrap ((y : Int) + 1) = (y : Int) + 1 := IntWalk.i64_in _ (by omega)
      have v5 : IntKind.i64.wrap ((z : Int) + 1) = (z : Int) + 1 := IntWalk.i64_in _ (by omega)
      have v6 : (k : Int) < (s.size : Int) := by omega
      have v7 : (k : Int) < (s.size : Int) + 1 := by omega
      have v8 : 0 ≤ (k : Int) := by omega
      go_region_held3 (fun w' => w'.cell? ⟨w.heap.size + 1, 0, none⟩ = some (.slice (some ⟨g, 0, none⟩) (s.size + 1) cap) ∧ w'.cell? ⟨g, k + 1, none⟩ = some (.int .i64 (y : Int)) ∧ w'.cell? ⟨w.heap.size + 1 + 1 + 1, k, none⟩ = some (.int .i64 (z : Int))) (first | ((repeat' apply And.intro) <;> assumption) | ((repeat' apply And.intro) <;> exact cellAlloc _ (by assumption)) | ((repeat' apply And.intro) <;> exact keep_far (by assumption) (fun e => by injection e with e1 e2 e3; omega)) | go_keep)
        (first
          | (go_at_call 47; refine (HCH.out _ (by first | exact Below.refl _ _ | exact (Below.refl _ _).drew | exact ((Below.refl _ _).drew).alloc (Nat.le_refl _) _)).mono ?_; rintro e w1 ⟨rfl, nn, rfl⟩)
          | (go_at_call 48; refine (least_any (chN x s[k] c) [y + 1, z + 1] (some ⟨_, 0, none⟩) 2 _ (by simp) hchb (by simp; omega) (.inr (by first | exact lit_row _ y z _ rfl | exact (lit_row _ y z _ rfl).drewN _))).mono ?_; rintro e w2 ⟨rfl, hw2⟩; rw [HV.out]; have HB2 : Hid (Below wr.heap.size wr w2) := (by show Below _ _ _; rw [← hw2]; first | exact (below_drewN (Below.refl _ _) _).alloc (Nat.le_refl _) _ | exact below_drewN (((Below.refl _ _).drew).alloc (Nat.le_refl _) _) _ | exact below_drewN ((below_drewN (Below.refl _ _) _).alloc (Nat.le_refl _) _) _); have q1 := cell_under eR HB2.out; have q2 := cell_under cy HB2.out; have q3 := cell_under cz HB2.out; have q4 := cell_under cn HB2.out; have q5 : w2.frozen? ⟨w.heap.size + 1 + 1 + 1, k + 1, none⟩ = false := (HB2.out.frozen (p := ⟨w.heap.size + 1 + 1 + 1, k + 1, none⟩) hgl).trans fn; clear hw2))
      all_goals
        clear v1 v2 v3 v4 v5 v6 v7 v8
        go_wp2_with fail
        go_roundw
        case rel =>
          refine ⟨k + 1, by omega, by go_num, ?_, (HB.out.trans (HB2.out.mono HB.out.size)).setCell (p := ⟨w.heap.size + 1 + 1 + 1, k + 1, none⟩) (by show W3.heap.size ≤ w.heap.size + 1 + 1 + 1; omega) _⟩
          rw [← nextTo_succ _ _ _ _ (by rw [HSZ.out]; omega), HU.out]
          exact OwnN.stored (ownBelow HO.out HB2.out) (k + 1) u
        case measure => simp [intOf]; omega
    · have hltd : decide ((k : Int) < (s.size : Int)) = false := by simp; omega
      obtain rfl : k = s.size := by omega
      go_wp2_with fail
      go_ret
      refine ⟨_, rfl, ?_, HW03.out.trans (HB.out.mono (by omega))⟩
      rw [← nextTo_full, HSZ.out]
      exact own_base HO.out (by omega)
end Go.Proofs.YtaakaajcpjiccaaDoor
