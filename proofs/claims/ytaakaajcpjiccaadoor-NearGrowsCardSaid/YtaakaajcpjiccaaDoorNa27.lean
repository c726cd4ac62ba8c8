/-
  A trie at a world; is. A trie at a world: Word. A trie at a world: Child.
-/
import Derived.Test.YtaakaajcpjiccaaDoorNa25
import Derived.Test.YtaakaajcpjiccaaDoorNa19
set_option linter.unusedVariables false
set_option linter.unusedSimpArgs false
namespace Go.Proofs.YtaakaajcpjiccaaDoor
open Go.RowKit
open Go.Proofs

structure NodeD where
  kids : List (UInt8 × Nat)
  word : Option Nat
instance : Inhabited NodeD := ⟨⟨[], none⟩⟩
def wordI : Option Nat → Int
  | some n => n
  | none => -1
def nodeV (p : Nat × NodeD) : List Value := [.map (some p.1), .int .i64 (wordI p.2.word)]
/-- The trie at the block tp: its nodes' maps lie at mbs. -/
structure TrieAt (w : World) (B tp : Nat) (mbs : List Nat) (T : List NodeD) : Prop where
  box : ∃ a c, w.heap[tp]? = some (.cells #[.slice a T.length c] 79 (0, 0)) ∧ w.ownsRow B 84 2 (.slice a T.length c) T.length ((mbs.zip T).flatMap nodeV)
  len : mbs.length = T.length
  asc : mbs.Pairwise (· < ·)
  kids : ∀ p ∈ mbs.zip T, KidsAt w p.1 p.2.kids
  small : T.length ≤ 1000000
/-- Is n a node's number? -/
def isF (n : Int) (len : Nat) : Bool := decide (0 ≤ n ∧ n < (len : Int))
set_option maxRecDepth 100000 in
set_option maxHeartbeats 2000000 in
theorem is_any {B tp : Nat} {mbs : List Nat} {T : List NodeD} (n : Int) (w : World) (h : TrieAt w B tp mbs T) : Calls Tryd.prog 65 #[.pointer (some ⟨tp, 0, none⟩), .int .i64 n] w fun e w' => e = .returned (.bool (isF n T.length)) ∧ w' = w := by
  obtain ⟨a, c, hb, -⟩ := h.box
  have b0 := cellB hb (j := 0) rfl
  clear hb h
  generalize T.length = len at b0 ⊢
  by_cases h0 : 0 ≤ n
  · by_cases h1 : n < len
    · have HD : Hid (isF n len = true) := decide_eq_true ⟨h0, h1⟩
      go_enter Tryd.func65, Tryd.ntmps65
      go_wp2_with fail
      go_ret
      exact ⟨by rw [HD.out]; rfl, rfl⟩
    · have HD : Hid (isF n len = false) := decide_eq_false (fun h => h1 h.2)
      have h2 : (len : Int) ≤ n := by omega
      go_enter Tryd.func65, Tryd.ntmps65
      go_wp2_with fail
      go_ret
      exact ⟨by rw [HD.out]; rfl, rfl⟩
  · have HD : Hid (isF n len = false) := decide_eq_false (fun h => h0 h.1)
    have h2 : n < 0 := by omega
    go_enter Tryd.func65, Tryd.ntmps65
    go_wp2_with fail
    go_ret
    exact ⟨by rw [HD.out]; rfl, rfl⟩
end Go.Proofs.YtaakaajcpjiccaaDoor
namespace Go.Proofs.YtaakaajcpjiccaaDoor
open Go.RowKit
open Go.Proofs

theorem TrieAt.node {w : World} {B tp : Nat} {mbs : List Nat} {T : List NodeD} (h : TrieAt w B tp mbs T) (i : Nat) (hi : i < T.length) :
    ∃ g c, w.heap[tp]? = some (.cells #[.slice (some ⟨g, 0, none⟩) T.length c] 79 (0, 0)) ∧ w.cell? ⟨g, i * 2, none⟩ = some (.map (some (mbs[i]'(by rw [h.len]; exact hi)))) ∧ w.cell? ⟨g, i * 2 + 1, none⟩ = some (.int .i64 (wordI (T[i]).word)) ∧ KidsAt w (mbs[i]'(by rw [h.len]; exact hi)) (T[i]).kids ∧ B ≤ g := by
  obtain ⟨a, c, hb, hown⟩ := h.box
  obtain ⟨g, c', hf⟩ := form_of hown (by omega)
  simp only [Value.slice.injEq] at hf
  obtain ⟨rfl, -, rfl⟩ := hf
  have hz : i < (mbs.zip T).length := by rw [List.length_zip, h.len, Nat.min_self]; exact hi
  have h1 := flat_take nodeV 2 (mbs.zip T) (fun a _ => rfl) i hz
  have h2 := rangeOf hown (i * 2) 2 _ h1
  have he : (mbs.zip T)[i] = (mbs[i]'(by rw [h.len]; exact hi), T[i]) := List.getElem_zip
  rw [he] at h2
  have hk := h.kids _ (List.getElem_mem hz)
  rw [he] at hk
  exact ⟨g, c, hb, h2 0 _ rfl, h2 1 _ rfl, hk, (World.ownsRow.lt hown g rfl).1⟩
/-- A node's word. -/
def wordV (T : List NodeD) (n : Int) : Value := if isF n T.length = true then (match (T[n.toNat]?.getD default).word with | some k => .tuple #[.int .i64 (k : Int), .bool true] | none => .tuple #[.int .i64 0, .bool false]) else .tuple #[.int .i64 0, .bool false]
set_option maxRecDepth 100000 in
set_option maxHeartbeats 2000000 in
theorem word_any {B tp : Nat} {mbs : List Nat} {T : List NodeD} (n : Int) (w : World) (h : TrieAt w B tp mbs T) : Calls Tryd.prog 49 #[.pointer (some ⟨tp, 0, none⟩), .int .i64 n] w fun e w' => e = .returned (wordV T n) ∧ w' = w := by
  have HIS := Lib.hid (is_any n w h)
  cases hf : isF n T.length with
  | false =>
    have HW : Hid (wordV T n = .tuple #[.int .i64 0, .bool false]) := by show _ = _; rw [wordV, hf]; rfl
    go_enter Tryd.func49, Tryd.ntmps49
    go_wp2_with (go_at_call 65; refine HIS.out.mono ?_; rintro e w' ⟨rfl, hw⟩; rw [hw, hf])
    go_ret2
    exact ⟨by rw [HW.out]; rfl, by first | rfl | assumption⟩
  | true =>
    have hn : 0 ≤ n ∧ n < (T.length : Int) := of_decide_eq_true hf
    obtain ⟨i, rfl⟩ : ∃ i : Nat, n = (i : Int) := ⟨n.toNat, by omega⟩
    have hi : i < T.length := by omega
    obtain ⟨g, c, hb, k0, k1, -, -⟩ := h.node i hi
    have b0 := cellB hb (j := 0) rfl
    have hil : (i : Int) < (T.length : Int) := by omega
    obtain ⟨x, hx⟩ : ∃ x, (T[i]).word = x := ⟨_, rfl⟩
    rw [hx] at k1
    have HX : Hid ((T[((i : Int)).toNat]?.getD default).word = x) := by show _ = _; rw [Int.toNat_natCast, List.getElem?_eq_getElem hi]; exact hx
    generalize hlen : T.length = len at b0 hil hf
    cases x with
    | none =>
      have HW : Hid (wordV T (i : Int) = .tuple #[.int .i64 0, .bool false]) := by show _ = _; rw [wordV, hlen, hf, HX.out]; rfl
      simp only [wordI] at k1
      clear hb k0 hx h hn
      go_enter Tryd.func49, Tryd.ntmps49
      go_wp2_with (go_at_call 65; refine HIS.out.mono ?_; rintro e w' ⟨rfl, hw⟩; rw [hw, hlen, hf])
      go_ret2
      exact ⟨by rw [HW.out]; rfl, by first | rfl | assumption⟩
    | some k =>
      have HW : Hid (wordV T (i : Int) = .tuple #[.int .i64 (k : Int), .bool true]) := by show _ = _; rw [wordV, hlen, hf, HX.out]; rfl
      have hk : ((k : Int) == -1) = false := by rw [beq_eq_false_iff_ne]; omega
      simp only [wordI] at k1
      go_enter Tryd.func49, Tryd.ntmps49
      go_wp2_with (go_at_call 65; refine HIS.out.mono ?_; rintro e w' ⟨rfl, hw⟩; rw [hw, hlen, hf])
      go_ret2
      exact ⟨by rw [HW.out]; rfl, by first | rfl | assumption⟩
end Go.Proofs.YtaakaajcpjiccaaDoor
namespace Go.Proofs.YtaakaajcpjiccaaDoor
open Go.RowKit
open Go.Proofs
open Go.Maps (Keyed)

def childF (T : List NodeD) (i : Nat) (c : UInt8) : Option Nat := kidOf (T[i]?.getD default).kids c
def childV (T : List NodeD) (i : Nat) (c : UInt8) : Value := .tuple #[.int .i64 ((childF T i c).getD 0 : Nat), .bool (childF T i c).isSome]
theorem zero_i (w : World) : (zeroValue 3).run Tryd.prog w = .ok (.int .i64 0) w := by kernel_rfl
set_option maxRecDepth 100000 in
set_option maxHeartbeats 2000000 in
theorem child_any {B tp : Nat} {mbs : List Nat} {T : List NodeD} (i : Nat) (c : UInt8) (w : World) (h : TrieAt w B tp mbs T) (hi : i < T.length) : Calls Tryd.prog 42 #[.pointer (some ⟨tp, 0, none⟩), .int .i64 (i : Int), .int .u8 (c.toNat : Int)] w fun e w' => e = .returned (childV T i c) ∧ w' = w := by
  have HIS := Lib.hid (is_any (i : Int) w h)
  have hf : isF (i : Int) T.length = true := decide_eq_true ⟨by omega, by omega⟩
  obtain ⟨g, cc, hb, k0, k1, ⟨D, ho, -, -, hD⟩, -⟩ := h.node i hi
  have b0 := cellB hb (j := 0) rfl
  have hil : (i : Int) < (T.length : Int) := by omega
  obtain ⟨h1, h2⟩ := hD c
  have hcf : childF T i c = kidOf (T[i]).kids c := by unfold childF; rw [List.getElem?_eq_getElem hi]; rfl
  rw [← hcf] at h1 h2
  have H1 := Lib.hid h1
  have H2 := Lib.hid h2
  clear h1 h2 hD hb k1 hcf
  obtain ⟨mb, hm⟩ : ∃ mb, mbs[i]'(by rw [h.len]; exact hi) = mb := ⟨_, rfl⟩
  rw [hm] at k0 ho
  clear hm h
  generalize hkl : (T[i]).kids.length = kl at ho
  generalize hlen : T.length = len at b0 hil hf
  go_enter Tryd.func42, Tryd.ntmps42
  go_wp2_with (first
    | (go_at_call 65; refine HIS.out.mono ?_; rintro e w' ⟨rfl, hw⟩; rw [hw, hlen, hf])
    | (at_lookup; refine wpList_lookup_own_ok_int _ rfl _ _ 82 rfl 5 3 .i64 kid_keyed Tryd.underlying82 Tryd.underlying3 (zero_i _) mb kl D rfl ho _ _ rfl (keyB_of c) ?_; intro x hat hwc))
  have hx : x = ((childF T i c).getD 0 : Nat) := by
    have := H2.out.symm.trans hat
    simpa using this.symm
  go_ret2
  exact ⟨by rw [H1.out, hx]; rfl, by first | rfl | assumption⟩
end Go.Proofs.YtaakaajcpjiccaaDoor
