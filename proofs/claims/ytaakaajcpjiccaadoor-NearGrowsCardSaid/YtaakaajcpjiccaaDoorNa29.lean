/-
  A trie's children, told by their bytes: Children.
-/
import Derived.Test.YtaakaajcpjiccaaDoorNa26
import Derived.Test.YtaakaajcpjiccaaDoorNa28
set_option linter.unusedVariables false
set_option linter.unusedSimpArgs false
namespace Go.Proofs.YtaakaajcpjiccaaDoor
open Go.RowKit
open Go.Proofs
open Go.Shelf
attribute [local go_sem] Oper.semAt_some

def encC (kids : List (UInt8 × Nat)) (c : UInt8) : Array Value := #[.int .u8 (c.toNat : Int), .int .i64 (((kidOf kids c).getD 0 : Nat) : Int)]
def partU (ks pre : List UInt8) (c : UInt8) : Prop := ∃ rest, ks = pre ++ c :: rest
theorem partU_take {ks : List UInt8} {j : Nat} (h : j < ks.length) : partU ks (ks.take j) ks[j] := ⟨ks.drop (j + 1), by rw [List.getElem_cons_drop, List.take_append_drop]⟩
theorem children_any (tp : Option Addr) (n : Int) (w : World) : Calls Tryd.prog 50 #[.pointer tp, .int .i64 n] w fun e w' =>
    e = .returned (.func (.func 70) #[] #[.pointer (some ⟨w.heap.size, 0, none⟩), .pointer (some ⟨w.heap.size + 1, 0, none⟩)]) ∧ w' = (w.alloc (.cells #[.pointer tp] 49)).alloc (.cells #[.int .i64 n] 3) := by
  go_enter Tryd.func50, Tryd.ntmps50
  go_wp2
  go_ret
  exact ⟨by simp, rfl⟩
theorem TrieAt.below {w w' : World} {B tp : Nat} {mbs : List Nat} {T : List NodeD} (h : TrieAt w B tp mbs T) (hb : Below w.heap.size w w') : TrieAt w' B tp mbs T := by
  obtain ⟨⟨a, c, hb1, hown⟩, hl, ha, hk, hs⟩ := h
  refine ⟨⟨a, c, (hb.block tp (Array.getElem?_eq_some_iff.1 hb1).1).trans hb1, ?_⟩, hl, ha, fun p hp => (hk p hp).heap (hb.block _ (hk p hp).lt), hs⟩
  exact hown.kept (grownBy_below (B := 0) hb none) (by cases (Value.slice a T.length c).ownBlock <;> simp)
set_option maxRecDepth 100000 in
set_option maxHeartbeats 4000000 in
theorem children1_in (m : Nat) (hm : 2 ≤ m) (S : Nat → Obj → Prop) (l B tp tb nb : Nat) (mbs : List Nat) (T : List NodeD) (i : Nat) (hi : i < T.length) (J Jx : List UInt8 → World → Prop) (W : World) (hT : TrieAt W B tp mbs T)
    (hJ : OwnFrom W.heap.size J)
    (ht : W.cell? ⟨tb, 0, none⟩ = some (.pointer (some ⟨tp, 0, none⟩))) (hn : W.cell? ⟨nb, 0, none⟩ = some (.int .i64 (i : Int)))
    (hSm : ∀ es c, S (mbs[i]'(by rw [hT.len]; exact hi)) (.map es c)) (hSu : ∀ k cs fr, W.heap.size ≤ k → S k (.cells cs 5 fr))
    (hY : ∀ pre x W1, J pre W1 → partU (keysS (T[i]).kids) pre x → YieldAt Fence.wide (m - 1) Tryd.prog l (encC (T[i]).kids x) W1 fun e W' =>
      (e = .returned (.bool true) ∧ J (pre ++ [x]) W' ∧ KeepP S W1 W') ∨ (e = .returned (.bool false) ∧ Jx (pre ++ [x]) W' ∧ KeepP S W1 W'))
    (h0 : J [] W) :
    CallsIn Fence.wide m Tryd.prog 70 #[.func (.yield l) #[] #[], .pointer (some ⟨tb, 0, none⟩), .pointer (some ⟨nb, 0, none⟩)] W fun e W' => (∃ v, e = .returned v) ∧
      ((∃ xs, xs = keysS (T[i]).kids ∧ J xs W') ∨ (∃ pre, True ∧ Jx pre W')) := by
  have HIS := Lib.hid (is_any (i : Int) W hT)
  have hf : isF (i : Int) T.length = true := decide_eq_true ⟨by omega, by omega⟩
  obtain ⟨g, cc, hb, k0, k1, hk, -⟩ := hT.node i hi
  have b0 := cellB hb (j := 0) rfl
  have hil : (i : Int) < (T.length : Int) := by omega
  generalize hmbi : (mbs[i]'(by rw [hT.len]; exact hi)) = mb at k0 hk hSm
  generalize hkids : (T[i]).kids = kids at hk hY ⊢
  have HY := Lib.hid hY
  have HJ := Lib.hid hJ
  have HK := Lib.hid hk
  have HSm := Lib.hid hSm
  have HSu := Lib.hid hSu
  have HKA := Lib.hid (keys_any mb)
  clear hmbi hkids hY hJ hk hSm hSu hb k1 hT
  generalize hlen : T.length = len at b0 hil hf HIS
  refine callsIn_of_wp Tryd.func70 rfl trivial ?_ rfl
  simp only [Tryd.ntmps70, List.size_toArray, List.length_cons, List.length_nil, Nat.reduceAdd, Nat.reduceSub, Array.replicate_succ, Array.replicate_zero, List.push_toArray, List.append_toArray, List.nil_append, List.cons_append]
  gi_wp2
  refine ⟨trivial, fun _ => by omega, ?_⟩
  refine (callsIn_wide.2 HIS.out).mono ?_
  rintro e w' ⟨rfl, hw⟩
  rw [hw, hf]
  clear hw
  gi_wp2
  gi_quiet (fail)
  gi_wp2
  refine ⟨trivial, fun _ => by omega, ?_⟩
  refine (callsIn_wide.2 (HKA.out _)).mono ?_
  rintro e w' ⟨rfl, rfl⟩
  gi_wp2
  refine ⟨trivial, fun _ => by omega, ?_⟩
  obtain ⟨V, hV⟩ : ∃ V, (W.drewN nq).alloc (.cells #[.map (some mb)] 82) = V := ⟨_, rfl⟩
  have hWV : Below W.heap.size W V := by rw [← hV]; exact (below_drewN (Below.refl _ _) _).alloc (by simp) _
  have hbV : V.cell? ⟨W.heap.size, 0, none⟩ = some (.map (some mb)) := by rw [← hV]; exact cellNew3 (by simp) rfl
  have hkV : KidsAt V mb kids := HK.out.heap (hWV.block _ HK.out.lt)
  rw [hV]
  refine (callsIn_wide.2 (sorted_any W.heap.size mb kids V hbV hkV)).mono ?_
  rintro e W1 ⟨v, rfl, hR, hbl⟩
  have hW1 := hWV.trans (hbl.mono hWV.size)
  have HKP : Hid (KeepP S W W1) := KeepP.below hW1
  have HJ0 : Hid (J [] W1) := own_below HJ.out h0 hW1
  have HK1 : Hid (KidsAt W1 mb kids) := hkV.heap (hbl.block _ hkV.lt)
  have hsz1 := hW1.size
  have hVs := hWV.size
  have hkl : (keysS kids).length ≤ 256 := bytes_few ((keysS_sorted kids).imp fun {a b} hab e => by subst e; omega)
  clear hbl hWV hbV hkV hV h0
  rcases hR with ⟨rfl, hnil⟩ | ⟨g2, cap, cur, rfl, hg2, hgb, hcur⟩
  · gi_wp2
    refine wpIn_loop_rounds 1 ?_
    rw [roundsIn_succ]
    gi_wp2
    go_end0
    exact ⟨⟨_, rfl⟩, .inl ⟨[], by rw [hnil], HJ0.out⟩⟩
  generalize hks : keysS kids = ks at hcur hkl HY ⊢
  gi_wp2
  gi_loopw [23] (fun v wr => ∃ j : Nat, j ≤ ks.length ∧ v = .int .i64 (j : Int) ∧ J (ks.take j) wr ∧ KeepP S W1 wr)
    (fun v _ => ks.length - (intOf v).toNat)
  case atStart => exact ⟨0, Nat.zero_le _, rfl, HJ0.out, KeepP.refl _ _⟩
  case round =>
    obtain ⟨j, hj, rfl, hJs, hkp⟩ := hrel
    by_cases hlt : j < ks.length
    · have hgr := hkp.same _ _ hgb (HSu.out _ _ _ (by omega))
      have hcell := cellB hgr (j := j) (hcur j hlt)
      obtain ⟨D, ⟨es, clock, hbm, hr1⟩, hr2, hr3, hD⟩ := HK1.out
      have hbm2 := hkp.same _ _ hbm (HSm.out _ _)
      have hown : wr.ownsMap Tryd.prog 5 (plainElem Tryd.prog 3) mb kids.length D := ⟨es, clock, hbm2, hr1⟩
      obtain ⟨d1, d2⟩ := hD (ks[j])
      have H2 := Lib.hid d2
      obtain ⟨fn, tmps, assign, body, hy, hR⟩ := HY.out (ks.take j) (ks[j]) wr hJs (partU_take hlt)
      have hnext := Lib.hid (List.take_append_getElem hlt)
      simp only [encC] at hy
      generalize ks[j] = c at hcell H2 hy hR hnext
      clear hr1 hr2 hr3 hD d1 d2 hbm hbm2 hgr hJs
      have HKP2 := Lib.hid hkp
      clear hkp
      simp only [encV] at hcell
      gi_wp2_with (gi_at_lookup; refine wpListIn_lookup_own_int _ rfl _ _ 82 rfl 5 3 .i64 kid_keyed Tryd.underlying82 Tryd.underlying3 (zero_i _) mb kids.length D rfl hown _ _ rfl (keyB_of c) ?_; intro x hat hwc; obtain rfl : x = (((kidOf kids c).getD 0 : Nat) : Int) := (by have := H2.out.symm.trans hat; simpa using this.symm))
      refine ⟨fun _ => by omega, ?_⟩
      refine hR.mono ?_
      rintro e W3 (⟨rfl, hJ3, hk3⟩ | ⟨rfl, hJx3, _⟩)
      · gi_wp2
        go_roundw
        case rel => exact ⟨j + 1, hlt, by simp, by rw [← hnext.out]; exact hJ3, HKP2.out.trans hk3⟩
        case measure => simp [intOf]; omega
      · gi_wp2
        refine bodyPost_ret (results_none rfl _ _ _) rfl ?_
        exact ⟨⟨_, rfl⟩, .inr ⟨_, trivial, hJx3⟩⟩
    · obtain rfl : j = ks.length := by omega
      gi_wp2
      go_end0
      rw [List.take_length] at hJs
      exact ⟨⟨_, rfl⟩, .inl ⟨_, hks.symm, hJs⟩⟩
theorem children_seq (m : Nat) (hm : 2 ≤ m) (S : Nat → Obj → Prop) (B tp tb nb : Nat) (mbs : List Nat) (T : List NodeD) (i : Nat) (hi : i < T.length) (w : World) (hT : TrieAt w B tp mbs T)
    (ht : w.cell? ⟨tb, 0, none⟩ = some (.pointer (some ⟨tp, 0, none⟩))) (hn : w.cell? ⟨nb, 0, none⟩ = some (.int .i64 (i : Int)))
    (hSm : ∀ es c, S (mbs[i]'(by rw [hT.len]; exact hi)) (.map es c)) (hSu : ∀ k cs fr, w.heap.size + 2 ≤ k → S k (.cells cs 5 fr)) :
    SeqO Fence.wide m Tryd.prog 70 #[.pointer (some ⟨tb, 0, none⟩), .pointer (some ⟨nb, 0, none⟩)] (encC (T[i]).kids) (KeepP S) (fun xs => xs = keysS (T[i]).kids) (fun _ => True) (partU (keysS (T[i]).kids)) w := fun l J Jx W hW hz hJ _ hY h0 =>
  children1_in m hm S l B tp tb nb mbs T i hi J Jx W (hT.below hW) hJ (cell_under ht hW) (cell_under hn hW) hSm (fun k cs fr hk => hSu k cs fr (by omega)) hY h0
end Go.Proofs.YtaakaajcpjiccaaDoor
