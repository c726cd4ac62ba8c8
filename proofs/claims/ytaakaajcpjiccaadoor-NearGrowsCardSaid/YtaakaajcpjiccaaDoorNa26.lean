/-
  maps.Keys over a map of bytes, its keys collected and sorted. The keys of a map of bytes, collected and sorted. A range over an iterator that writes cells of its own: what its caller must abide.
-/
import Derived.OwnWalkIn
import Derived.RangeFuncBox
import Derived.Sort.MapsRangeIn
import Derived.Test.YtaakaajcpjiccaaDoorNa06
import Derived.Test.YtaakaajcpjiccaaDoorNa24
import Derived.Test.YtaakaajcpjiccaaDoorNa25
set_option linter.unusedVariables false
set_option linter.unusedSimpArgs false
namespace Go.Proofs.YtaakaajcpjiccaaDoor
open Go.RowKit
open Go.Proofs
open Go.Shelf
attribute [local go_sem] Oper.semAt_some

theorem keyOf_u8 {key : Value} {kl : Lit} (h : keyOf Tryd.prog 5 key = some kl) : ∃ c : UInt8, key = .int .u8 (c.toNat : Int) ∧ kl = keyB c := by
  cases key <;> simp [keyOf, Tryd.underlying5, mapKey] at h
  rename_i q a
  obtain ⟨⟨rfl, hw⟩, rfl⟩ := h
  have h1 : IntKind.u8.min = 0 := by decide
  have h2 : IntKind.u8.max = 255 := by decide
  simp only [Lit.wf, h1, h2, Bool.and_eq_true, decide_eq_true_eq] at hw
  refine ⟨UInt8.ofNat a.toNat, ?_, ?_⟩
  all_goals
    have : ((UInt8.ofNat a.toNat).toNat : Int) = a := by
      rw [UInt8.toNat_ofNat_of_lt' (by show a.toNat < 256; omega)]; omega
    first
      | rw [this]
      | (unfold keyB; rw [this])
theorem same_keyB (d c : UInt8) : (keyB d).sameKey (keyB c) = decide (d = c) := by
  by_cases h : d = c
  · subst h; simp [keyB, Lit.sameKey]
  · have : ¬ (d.toNat : Int) = c.toNat := fun e => h (UInt8.toNat_inj.1 (by omega))
    simp [keyB, Lit.sameKey, h, this]
/-- No key twice; a key is there just where the map has it and it is no longer to come. -/
def CollB (D0 : DataW Unit) (left : Lit → Bool) (ss : List UInt8) : Prop := ss.Nodup ∧ ∀ c, c ∈ ss ↔ (Maps.has D0 (keyB c) = true ∧ left (keyB c) = false)
theorem CollB.start (D0 : DataW Unit) : CollB D0 (Maps.has D0) [] := ⟨List.nodup_nil, fun c => by cases Maps.has D0 (keyB c) <;> simp⟩
theorem CollB.step {D0 : DataW Unit} {left : Lit → Bool} {ss : List UInt8} (h : CollB D0 left ss) {c : UInt8} {y : DataW Unit} (hlk : left (keyB c) = true) (hat : ∀ zd, D0.atKey (keyB c) zd = y) : CollB D0 (fun z => left z && !z.sameKey (keyB c)) (ss ++ [c]) := by
  have hhas : Maps.has D0 (keyB c) = true := Maps.has_true_of_atKey hat
  have hnew : c ∉ ss := fun hx => by have := ((h.2 c).1 hx).2; rw [hlk] at this; cases this
  refine ⟨List.nodup_append.2 ⟨h.1, by simp, fun a ha b hb => by simp at hb; subst hb; exact fun e => hnew (e ▸ ha)⟩, fun d => ?_⟩
  rw [List.mem_append, List.mem_singleton, h.2 d]
  simp only [same_keyB]
  by_cases hd : d = c
  · subst hd; simp [hhas]
  · simp [hd]
theorem bytes_few {ss : List UInt8} (h : ss.Nodup) : ss.length ≤ 256 := by
  have h1 : (ss.map UInt8.toNat).Nodup := List.Pairwise.map _ (fun a b hab e => hab (UInt8.toNat_inj.1 e)) h
  have h2 := List.Nodup.length_le_of_subset h1 (l₂ := List.range 256) (fun x hx => by
    rw [List.mem_map] at hx
    obtain ⟨c, _, rfl⟩ := hx
    rw [List.mem_range]
    exact c.toNat_lt)
  simpa using h2
def encU (c : UInt8) : Array Value := #[.int .u8 (c.toNat : Int)]
/-- A map's block, and all that is no cell from N + 2 on, is kept. -/
def KeepK (N mb : Nat) (A C : World) : Prop := KeepsFrom (N + 2) A C ∧ C.heap[mb]? = A.heap[mb]?
theorem ranges_keep {w w' : World} {H : Type} {P : Program} {k : TypeId} {R : Value → Option (DataW H × List MemPlace)} {b r n : Nat} {D : DataW H} {left : Lit → Bool} {cnt : Nat}
    (h : w.ranges P k R b r n D left cnt) (hb' : w'.heap[b]? = w.heap[b]?) (hr' : w'.heap[r]? = w.heap[r]?) : w'.ranges P k R b r n D left cnt := by
  obtain ⟨es, clock, since, seen, c0, hb, F, hs, hD, hr, rest⟩ := h
  exact ⟨es, clock, since, seen, c0, hb'.trans hb, F, hs, hD, hr'.trans hr, rest⟩
def keysAll (kids : List (UInt8 × Nat)) (ss : List UInt8) : Prop := ss.Nodup ∧ ∀ c, c ∈ ss ↔ (kidOf kids c).isSome = true
set_option maxRecDepth 100000 in
set_option maxHeartbeats 2000000 in
theorem keys1_in (m : Nat) (hm : 1 ≤ m) (l Bm mb N : Nat) (kids : List (UInt8 × Nat)) (J Jx : List UInt8 → World → Prop) (W : World) (hJ : OwnFrom W.heap.size J) (hN : N + 2 ≤ W.heap.size)
    (hY : ∀ pre x W1, J pre W1 → pre.length < 256 → YieldAt Fence.wide (m - 1) Tryd.prog l (encU x) W1 fun e W' =>
      (e = .returned (.bool true) ∧ J (pre ++ [x]) W' ∧ KeepK N mb W1 W') ∨ (e = .returned (.bool false) ∧ Jx (pre ++ [x]) W' ∧ KeepK N mb W1 W'))
    (hb : W.cell? ⟨Bm, 0, none⟩ = some (.map (some mb))) (hk : KidsAt W mb kids) (h0 : J [] W) :
    CallsIn Fence.wide m Tryd.prog 90 #[.func (.yield l) #[] #[], .pointer (some ⟨Bm, 0, none⟩)] W fun e W' => (∃ v, e = .returned v) ∧
      ((∃ ss, keysAll kids ss ∧ J ss W') ∨ (∃ pre, True ∧ Jx pre W')) := by
  obtain ⟨D0, hown, -, hcl, hD⟩ := hk
  have HY := Lib.hid hY
  have HJ := Lib.hid hJ
  have HC := Lib.hid hcl
  have HD := Lib.hid hD
  clear hY hJ hcl hD
  refine callsIn_of_wp Tryd.func90 rfl trivial ?_ rfl
  simp only [Tryd.ntmps90, List.size_toArray, List.length_cons, List.length_nil, Nat.reduceAdd, Nat.reduceSub, Array.replicate_succ, Array.replicate_zero, List.push_toArray, List.append_toArray, List.nil_append, List.cons_append]
  gi_wp2_with (first
    | (gi_at_range; refine wpListIn_range_own _ rfl _ 82 rfl 5 3 kid_keyed Tryd.underlying82 _ mb kids.length _ rfl hown ?_; intro w0 hrg0 hg0 hs0)
    | gi_in)
  go_frame
  gi_loopw [3] (fun _ wr => ∃ (left : Lit → Bool) (cnt : Nat) (ss : List UInt8), wr.ranges Tryd.prog 5 (plainElem Tryd.prog 3) mb W.heap.size kids.length D0 left cnt ∧ CollB D0 left ss ∧ J ss wr)
    (fun _ wr => wr.rangeLeft mb W.heap.size)
  case atStart =>
    exact ⟨_, _, [], hrg0, CollB.start D0, HJ.out [] W w0 none h0 hg0 (fun r e => by cases e)⟩
  case round =>
    obtain ⟨left, cnt, ss, hrg, hC, hJs⟩ := hrel
    gi_wp2_with (first
      | (gi_at_next; refine wpListIn_next_ranges _ rfl _ rfl 5 kid_keyed (plainElem Tryd.prog 3) (fun c : UInt8 => Value.int .u8 (c.toNat : Int)) id (fun key kl hk => by obtain ⟨x, hx, _⟩ := keyOf_u8 hk; exact ⟨x, hx⟩) (fun v _ _ => ⟨v, rfl⟩) mb W.heap.size kids.length _ _ _ rfl hrg ?_ ?_)
      | gi_in)
    · intro hc0 hl0
      gi_wp2
      go_end0
      refine ⟨⟨_, rfl⟩, .inl ⟨ss, ⟨hC.1, fun c => ?_⟩, hJs⟩⟩
      rw [hC.2 c, hl0, (HD.out c).1]
      simp
    · intro x c kl yd yp w2 cnt2 hkey hlk hv hat hrg2 hlt hg2 hs2 hen
      obtain ⟨x', ex, rfl⟩ := keyOf_u8 hkey
      obtain rfl : x = x' := by
        simp only [Value.int.injEq, true_and] at ex
        exact UInt8.toNat_inj.1 (by omega)
      have hitw : ∃ o : Obj, wr.heap[W.heap.size]? = some o ∧ o.isCells = false := by
        obtain ⟨es, clock, since, seen, c0, _, _, _, _, hr, _⟩ := hrg
        exact ⟨_, hr, rfl⟩
      have hJ2 : J ss w2 := HJ.out ss wr w2 (some W.heap.size) hJs hg2 (fun r e => by cases e; exact ⟨Nat.le_refl _, hitw⟩)
      have hlen := bytes_few (hC.step hlk hat).1
      rw [List.length_append, List.length_singleton] at hlen
      obtain ⟨fn, tmps, assign, body, hy, hR⟩ := HY.out ss x w2 hJ2 (by omega)
      simp only [encU] at hy
      clear hs2
      gi_wp2
      refine hR.mono ?_
      rintro e W3 (⟨rfl, hJ3, hk3⟩ | ⟨rfl, hJx3, _⟩)
      · gi_wp2
        have hrg3 := ranges_keep hrg2 hk3.2 (by
          obtain ⟨es, clock, since, seen, c0, _, _, _, _, hr, _⟩ := hrg2
          rw [hr]
          exact hk3.1.same _ _ (by omega) hr rfl)
        go_roundw
        case rel => exact ⟨_, cnt2, ss ++ [x], hrg3, hC.step hlk hat, hJ3⟩
        case measure => rw [hrg3.left_eq, hrg.left_eq]; exact hlt
      · gi_wp2
        refine bodyPost_ret (results_none rfl _ _ _) rfl ?_
        exact ⟨⟨_, rfl⟩, .inr ⟨_, trivial, hJx3⟩⟩
theorem keys_seq (m : Nat) (hm : 1 ≤ m) (Bm mb : Nat) (kids : List (UInt8 × Nat)) (w : World) (hb : w.cell? ⟨Bm, 0, none⟩ = some (.map (some mb))) (hk : KidsAt w mb kids) :
    SeqO Fence.wide m Tryd.prog 90 #[.pointer (some ⟨Bm, 0, none⟩)] encU (KeepK w.heap.size mb) (keysAll kids) (fun _ => True) (fun pre _ => pre.length < 256) w := fun l J Jx W hW hz hJ _ hY h0 =>
  keys1_in m hm l Bm mb w.heap.size kids J Jx W hJ hz hY (cell_under hb hW) (hk.heap (hW.block _ hk.lt)) h0
theorem keys_any (mb : Nat) (w : World) : Calls Tryd.prog 72 #[.map (some mb)] w fun e w' =>
    e = .returned (.func (.func 90) #[] #[.pointer (some ⟨w.heap.size, 0, none⟩)]) ∧ w' = w.alloc (.cells #[.map (some mb)] 82) := by
  go_enter Tryd.func72, Tryd.ntmps72
  go_wp2
  go_ret
  exact ⟨rfl, rfl⟩
end Go.Proofs.YtaakaajcpjiccaaDoor
namespace Go.Proofs.YtaakaajcpjiccaaDoor
open Go.RowKit
open Go.Proofs
open Go.Shelf
attribute [local go_sem] Oper.semAt_some

theorem info_u8 : (Tryd.prog.info? 5).map (fun i => (i.zero, i.size, i.bytes)) = some (some (.int .u8 0), 1, 1) := by kernel_rfl
def encV (c : UInt8) : Value := .int .u8 (c.toNat : Int)
def KeyI (w : World) (pre : List UInt8) (X : World) : Prop := (∃ v, Boxed X w.heap.size 44 v ∧ X.ownsRow w.heap.size 5 1 v pre.length (pre.map encV) ∧ pre.length ≤ 256) ∧ Below w.heap.size w X
theorem keyI_own (w : World) {B : Nat} (hB : w.heap.size ≤ B) : OwnFrom B (KeyI w) :=
  ((holdsRow_own w.heap.size w.heap.size 44 5 1 (fun pre : List UInt8 => pre.length) (fun pre => pre.map encV) (fun pre _ => pre.length ≤ 256)).from B).and (ownFrom_below (Nat.le_refl _) hB)
set_option maxRecDepth 100000 in
set_option maxHeartbeats 4000000 in
theorem appendSeq_in (Bm mb : Nat) (kids : List (UInt8 × Nat)) (w : World) (hb : w.cell? ⟨Bm, 0, none⟩ = some (.map (some mb))) (hk : KidsAt w mb kids) : CallsIn Fence.wide 20 Tryd.prog 98 #[.slice none 0 0, .func (.func 90) #[] #[.pointer (some ⟨Bm, 0, none⟩)]] w fun e w' =>
    ∃ v ss, e = .returned v ∧ keysAll kids ss ∧ w'.ownsRow w.heap.size 5 1 v ss.length (ss.map encV) ∧ Below w.heap.size w w' := by
  obtain ⟨i0, hi, hz0, hz1, hz2⟩ := info_parts info_u8
  have hB1 := Boxed.new w 44 (.slice none 0 0)
  have HK := Lib.hid hk
  clear hk
  refine callsIn_of_wp_marks Tryd.func98 rfl trivial ?_ rfl
  simp only [Tryd.ntmps98, List.size_toArray, List.length_cons, List.length_nil, Nat.reduceAdd, Nat.reduceSub, Array.replicate_succ, Array.replicate_zero, List.push_toArray, List.append_toArray, List.nil_append, List.cons_append]
  gi_wp2
  obtain ⟨V, hV⟩ : ∃ V, w.alloc (.cells #[.slice none 0 0] 44) = V := ⟨_, rfl⟩
  have hWV : Below w.heap.size w V := by rw [← hV]; exact (Below.refl _ _).alloc (Nat.le_refl _) _
  have hBV : Boxed V w.heap.size 44 (.slice none 0 0) := by rw [← hV]; exact hB1
  have hVs : V.heap.size = w.heap.size + 1 := by rw [← hV]; simp
  have hkV : KidsAt V mb kids := HK.out.heap (hWV.block _ HK.out.lt)
  have hmbl := HK.out.lt
  rw [hV]
  clear hV hB1
  refine range_ok (F := Fence.wide) rfl (by omega) (gf := 90) (lb := #[.pointer (some ⟨Bm, 0, none⟩)]) rfl trivial (enters_of Tryd.func90 (by kernel_rfl) rfl)
    (keys_seq (20 - 1) (by omega) Bm mb kids V (cell_under hb hWV) hkV)
    (fun h k => ⟨h.1.trans k.1, k.2.trans h.2⟩)
    (fun X o o' h hc => ⟨KeepsFrom.of_grownBy (grownBy_putObj' X _ o') (fun j e => by cases e; omega), World.putObj_heap_other (by omega)⟩)
    (Below.refl _ _) (fun _ => rfl)
    (KeyI w) (fun _ _ _ => False) (keyI_own w (by omega)) (fun c s A C row hs hg hr => hs)
    ⟨⟨_, hBV, World.ownsRow_nil _ _ _ _, by simp⟩, hWV⟩
    (fun x a' X => a' = { tmps := #[.slice none 0 0, .func (.func 90) #[] #[.pointer (some ⟨Bm, 0, none⟩)], .pointer (some ⟨w.heap.size, 0, none⟩), undef, .slice none 0 0, encV x, .func (.func 90) #[] #[.pointer (some ⟨Bm, 0, none⟩)], encV x, undef, undef, undef, undef, undef], defers := [] })
    (fun x a' s A C row h hg hr => h) ?assign ?body ?done ?stop
  case assign =>
    rintro l2 pre x Y K hI hK
    simp only [encU] at hK ⊢
    gi_wp2
    exact hK _ _ (KeepsFrom.refl _ _) ⟨KeepsFrom.refl _ _, rfl⟩ hI rfl
  case body =>
    rintro l2 pre x a' X ⟨⟨v, hv, hown, -⟩, hbw⟩ rfl hlen
    have hvc := hv.cell
    have hvf := hv.frozen
    have hwX : w.heap.size ≤ X.heap.size := Nat.le_of_lt hv.lt
    have hmX : ∃ es cl, X.heap[mb]? = some (.map es cl) := by
      obtain ⟨D, ⟨es, clock, hb, r⟩, r2⟩ := HK.out
      exact ⟨es, clock, (hbw.block _ hmbl).trans hb⟩
    obtain ⟨es, cl, hmX⟩ := hmX
    simp only [encV]
    gi_wp2_with (gi_at_builtin; refine wpListIn_append_own _ rfl _ _ 44 rfl w.heap.size 5 i0 _ 1 1 Tryd.underlying44 hi hz0 hz1 hz2 rfl (by decide) v pre.length (pre.map encV) rfl (hown.alloc _) ⟨X.heap.size, 0, none⟩ 1 1 [.int .u8 (x.toNat : Int)] rfl rfl ?c1 ?c2 ?c3 ?c4 ?c5 ?_)
    case c1 =>
      intro j u hj
      rcases j with _ | j
      · cases hj; exact cellNew X _ _ 0 _ rfl
      · simp at hj
    case c2 => intro u hu; simp only [List.mem_singleton] at hu; subst hu; rfl
    case c3 => unfold maxLen; omega
    case c4 => omega
    case c5 => rw [World.size_alloc]; omega
    intro v' w1 hown' hgrow hnn
    obtain ⟨g', cap', rfl⟩ := ownsRow_succ hown'
    obtain ⟨a1, a2, a3, a4, a5⟩ := Boxed.appended hv (by decide) hown hwX (Nat.le_refl _) hown' hgrow
    have HA := Lib.hid (And.intro a2 (And.intro a3 (And.intro a4 a5)))
    have b1 := a1.cell
    have b2 := a1.frozen
    clear a1 a2 a3 a4 a5 hown' hgrow hown hv
    gi_wp2
    obtain ⟨a2, a3, a4, a5⟩ := HA.out
    refine ⟨a4.from _, ⟨a4.from _, ?_⟩, ⟨_, a2, by rw [List.length_append, List.map_append]; exact a3, by rw [List.length_append, List.length_singleton]; omega⟩, hbw.trans a5⟩
    rw [hmX]
    exact a4.same _ _ hmX rfl
  case done =>
    rintro D xs Y hD hS ⟨⟨v, hv, hown, -⟩, hbw⟩ hK
    have hvc := hv.cell
    gi_wp2
    refine ⟨by simp, .inl ⟨_, _, rfl, run_takeDeferred hK, ?_⟩⟩
    exact ⟨_, results_tmp rfl _ _ _, v, xs, rfl, hS, ownsRow_putObj hown (.deferred none) hK rfl, hbw.grown (grownBy_putObj' Y D _) (Nat.le_of_lt hv.lt) (fun q hq => by cases hq; omega)⟩
  case stop => exact fun D c pre Y hD _ h _ => h.elim
theorem collect_any (Bm mb : Nat) (kids : List (UInt8 × Nat)) (w : World) (hb : w.cell? ⟨Bm, 0, none⟩ = some (.map (some mb))) (hk : KidsAt w mb kids) : Calls Tryd.prog 88 #[.func (.func 90) #[] #[.pointer (some ⟨Bm, 0, none⟩)]] w fun e w' =>
    ∃ v ss, e = .returned v ∧ keysAll kids ss ∧ w'.ownsRow w.heap.size 5 1 v ss.length (ss.map encV) ∧ Below w.heap.size w w' := by
  have HC := Lib.hid (callsIn_wide.1 (appendSeq_in Bm mb kids w hb hk))
  go_enter Tryd.func88, Tryd.ntmps88
  go_wp2_with (go_at_call 98; refine HC.out.mono ?_; rintro e w' ⟨v, ss, rfl, hS, hr, hw⟩)
  go_ret
  exact ⟨v, ss, rfl, hS, hr, hw⟩
/-! The sorted row. -/
/-- The bytes behind which a node has a child, ascending. -/
def keysS (kids : List (UInt8 × Nat)) : List UInt8 := ((List.range 256).map UInt8.ofNat).filter fun c => (kidOf kids c).isSome
theorem mem_keysS (kids : List (UInt8 × Nat)) (c : UInt8) : c ∈ keysS kids ↔ (kidOf kids c).isSome = true := by
  unfold keysS
  rw [List.mem_filter]
  refine ⟨fun h => h.2, fun h => ⟨?_, h⟩⟩
  rw [List.mem_map]
  exact ⟨c.toNat, List.mem_range.2 c.toNat_lt, by simp⟩
theorem ofNat_lt {a b : Nat} (ha : a < 256) (hb : b < 256) : (UInt8.ofNat a).toNat < (UInt8.ofNat b).toNat ↔ a < b := by
  rw [UInt8.toNat_ofNat_of_lt' ha, UInt8.toNat_ofNat_of_lt' hb]
theorem keysS_sorted (kids : List (UInt8 × Nat)) : (keysS kids).Pairwise fun a b => a.toNat < b.toNat := by
  unfold keysS
  refine List.Pairwise.filter _ (List.pairwise_map.2 ?_)
  refine (List.pairwise_lt_range (n := 256)).imp_of_mem fun {a b} ha hb h => ?_
  rw [List.mem_range] at ha hb
  exact (ofNat_lt ha hb).2 h
theorem keysS_perm {kids : List (UInt8 × Nat)} {ss : List UInt8} (h : keysAll kids ss) : ss.Perm (keysS kids) := by
  refine (List.perm_ext_iff_of_nodup h.1 ?_).2 fun c => by rw [h.2 c, mem_keysS]
  exact (keysS_sorted kids).imp fun {a b} hab e => by subst e; omega
def natsU (ss : List UInt8) : List Int := ss.map fun c => (c.toNat : Int)
theorem sort_perm {l l' : List Int} (h : l.Perm l') : (l.mergeSort fun x y => decide (x ≤ y)) = l'.mergeSort fun x y => decide (x ≤ y) := by
  have tr : ∀ a b c : Int, decide (a ≤ b) = true → decide (b ≤ c) = true → decide (a ≤ c) = true := fun a b c h1 h2 => by simp only [decide_eq_true_eq] at *; omega
  have tot : ∀ a b : Int, (decide (a ≤ b) || decide (b ≤ a)) = true := fun a b => by simp only [Bool.or_eq_true, decide_eq_true_eq]; omega
  refine List.Perm.eq_of_pairwise (le := fun a b => decide (a ≤ b) = true) (fun a b _ _ h1 h2 => ?_) (List.pairwise_mergeSort tr tot l) (List.pairwise_mergeSort tr tot l') (((List.mergeSort_perm l _).trans h).trans (List.mergeSort_perm l' _).symm)
  simp only [decide_eq_true_eq] at h1 h2
  omega
theorem keysS_sort {kids : List (UInt8 × Nat)} {ss : List UInt8} (h : keysAll kids ss) : ((natsU ss).mergeSort fun x y => decide (x ≤ y)) = natsU (keysS kids) := by
  have h1 := sort_perm ((keysS_perm h).map fun c => (c.toNat : Int))
  refine h1.trans ?_
  refine List.mergeSort_of_pairwise ?_
  refine List.pairwise_map.2 ((keysS_sorted kids).imp fun {a b} hab => ?_)
  simp only [decide_eq_true_eq]
  omega
/-- A row of bytes in a block of its own, or nil. -/
def RowU (w : World) (B : Nat) (v : Value) (ss : List UInt8) : Prop := (v = .slice none 0 0 ∧ ss = []) ∨ ∃ g cap cur, v = .slice (some ⟨g, 0, none⟩) ss.length cap ∧ B ≤ g ∧ w.heap[g]? = some (.cells cur 5 (0, 0)) ∧ ∀ j (hj : j < ss.length), cur[j]? = some (encV ss[j])
set_option maxHeartbeats 1000000 in
theorem sorted_any (Bm mb : Nat) (kids : List (UInt8 × Nat)) (w : World) (hb : w.cell? ⟨Bm, 0, none⟩ = some (.map (some mb))) (hk : KidsAt w mb kids) : Calls Tryd.prog 71 #[.func (.func 90) #[] #[.pointer (some ⟨Bm, 0, none⟩)]] w fun e w' =>
    ∃ v, e = .returned v ∧ RowU w' w.heap.size v (keysS kids) ∧ Below w.heap.size w w' := by
  have HC := Lib.hid (collect_any Bm mb kids w hb hk)
  go_enter Tryd.func71, Tryd.ntmps71
  go_wp2_with (go_at_call 88; refine HC.out.mono ?_; rintro e W ⟨v, ss, rfl, hS, hr, hw⟩)
  rcases hr.2 with ⟨rfl, hz⟩ | ⟨gb, cap, cur, rfl, hbase, hgb, r1, r2, r3, r4⟩
  · have hss : ss = [] := List.eq_nil_of_length_eq_zero hz
    subst hss
    have hkn : keysS kids = [] := by have := (keysS_perm hS).length_eq; exact List.eq_nil_of_length_eq_zero (by simpa using this.symm)
    go_wp2_with (go_at_call 89; refine (Sort_u8_nil none 0 W).mono ?_; rintro e w' ⟨rfl, rfl⟩)
    go_ret
    exact ⟨_, rfl, .inl ⟨rfl, hkn⟩, hw⟩
  · have hss : (natsU ss).length = ss.length := by simp [natsU]
    have hH : Sort.Holds (Value.int .u8) W gb 0 (natsU ss).toArray := by
      intro j hj
      have hj' : j < ss.length := by simpa [natsU] using hj
      refine ⟨?_, by simp [World.frozen?, hgb]⟩
      have h1 : (cur.toList.take ss.length)[j]? = (ss.map encV)[j]? := by rw [← r4, Nat.mul_one]
      rw [List.getElem?_take_of_lt hj'] at h1
      simp only [World.cell?, hgb, Nat.zero_add]
      simp only [Option.isSome_none, Bool.false_eq_true, if_false]
      rw [← Array.getElem?_toList, h1]
      simp [hj', natsU, encV]
    have hgl : gb < W.heap.size := (Array.getElem?_eq_some_iff.1 hgb).1
    have hlen := bytes_few hS.1
    have HP := Lib.hid (slicesSort_u8 gb 0 cap (natsU ss) W hH hgl (by rw [hss]; omega))
    rw [hss, keysS_sort hS] at HP
    go_wp2_with (go_at_call 89; refine HP.out.mono ?_; rintro e w' ⟨rfl, nn, os, rfl⟩)
    go_ret
    have hpl := (keysS_perm hS).length_eq
    have hheap : (Sort.grow (Sort.putRow (Value.int .u8) (Sort.ahead W nn) gb 0 (natsU (keysS kids)).toArray) os).heap[gb]? = some (.cells (Sort.putCells (Value.int .u8) 0 (natsU (keysS kids)).toArray cur) 5 (0, 0)) := by
      rw [Sort.heap_grow_old _ _ (by simpa using hgl)]
      simp [Sort.putRow, Sort.mapBlock, Sort.ahead, Array.getElem?_modify, hgb, Sort.onCells]
    have hgr : W.grownBy (Sort.grow (Sort.putRow (Value.int .u8) (Sort.ahead W nn) gb 0 (natsU (keysS kids)).toArray) os) (some gb) := by
      refine ⟨rfl, rfl, rfl, by simp, fun k hk hne => ?_⟩
      rw [Sort.heap_grow_old _ _ (by simpa using hk)]
      have : gb ≠ k := fun e => hne (by rw [e])
      simp [Sort.putRow, Sort.mapBlock, Sort.ahead, Array.getElem?_modify, this]
    refine ⟨_, rfl, .inr ⟨gb, cap, _, by rw [hpl]; rfl, hbase, hheap, fun j hj => ?_⟩, hw.grown hgr hw.size (fun j hj => by cases hj; exact hbase)⟩
    have hjc : j < cur.size := by omega
    simp [Sort.putCells, natsU, hj, hjc, encV]
end Go.Proofs.YtaakaajcpjiccaaDoor
namespace Go.Proofs.YtaakaajcpjiccaaDoor
open Go.RowKit
open Go.Proofs

/-- What S names is kept; so are the streams. -/
structure KeepP (S : Nat → Obj → Prop) (A C : World) : Prop where
  size : A.heap.size ≤ C.heap.size
  same : ∀ k o, A.heap[k]? = some o → S k o → C.heap[k]? = some o
  os : C.os = A.os
  tape : C.tape = A.tape
  output : C.output = A.output
theorem KeepP.refl (S : Nat → Obj → Prop) (A : World) : KeepP S A A := ⟨Nat.le_refl _, fun _ _ h _ => h, rfl, rfl, rfl⟩
theorem KeepP.trans {S : Nat → Obj → Prop} {A B C : World} (h : KeepP S A B) (k : KeepP S B C) : KeepP S A C := ⟨Nat.le_trans h.size k.size, fun i o hi hs => k.same i o (h.same i o hi hs) hs, k.os.trans h.os, k.tape.trans h.tape, k.output.trans h.output⟩
theorem KeepP.mono {S S' : Nat → Obj → Prop} {A C : World} (h : KeepP S A C) (hs : ∀ k o, S' k o → S k o) : KeepP S' A C := ⟨h.size, fun i o hi ho => h.same i o hi (hs i o ho), h.os, h.tape, h.output⟩
theorem KeepP.below {S : Nat → Obj → Prop} {A C : World} (h : Below A.heap.size A C) : KeepP S A C := ⟨h.size, fun k o hk _ => (h.block k (Array.getElem?_eq_some_iff.1 hk).1).trans hk, h.os, h.tape, h.output⟩
theorem KeepP.grown {S : Nat → Obj → Prop} {A C : World} {row : Option Nat} (h : A.grownBy C row) (hs : ∀ r, row = some r → ∀ o, A.heap[r]? = some o → ¬ S r o) : KeepP S A C :=
  ⟨h.size, fun k o hk ho => (h.block k (Array.getElem?_eq_some_iff.1 hk).1 (fun e => hs k e.symm o hk ho)).trans hk, h.os, h.tape, h.output⟩
theorem KeepP.putObj {S : Nat → Obj → Prop} {A : World} {l : Nat} {o : Obj} (o' : Obj) (h : A.heap[l]? = some o) (hs : ¬ S l o) : KeepP S A (A.putObj l o') :=
  KeepP.grown (grownBy_putObj' A l o') (fun r e o2 h2 hs2 => by cases e; rw [h] at h2; cases h2; exact hs hs2)
/-- Of one's own: from B on, no cells, or cells of the types ts. -/
def ownP (B : Nat) (ts : List TypeId) (k : Nat) (o : Obj) : Prop := B ≤ k ∧ (o.isCells = false ∨ ∃ cs t fr, o = .cells cs t fr ∧ t ∈ ts)
theorem ownP.wide {B B' : Nat} {ts : List TypeId} {k : Nat} {o : Obj} (h : ownP B ts k o) (hB : B' ≤ B) : ownP B' ts k o := ⟨Nat.le_trans hB h.1, h.2⟩
theorem ownP_cells {B : Nat} {ts : List TypeId} {k : Nat} {cs : Array Value} {t : TypeId} {fr : Nat × Nat} (hB : B ≤ k) (ht : t ∈ ts) : ownP B ts k (.cells cs t fr) := ⟨hB, .inr ⟨_, _, _, rfl, ht⟩⟩
theorem not_ownP_cells {B : Nat} {ts : List TypeId} {k : Nat} {cs : Array Value} {t : TypeId} {fr : Nat × Nat} (ht : t ∉ ts) : ¬ ownP B ts k (.cells cs t fr) := by
  rintro ⟨_, h | ⟨cs', t', fr', e, h⟩⟩
  · cases h
  · cases e; exact ht h
/-- It stands while only what is of one's own turns. -/
def StabP {β : Type} (B : Nat) (ts : List TypeId) (J : β → World → Prop) : Prop := ∀ s W W', J s W → KeepP (fun k o => ¬ ownP B ts k o) W W' → J s W'
theorem StabP.own {β : Type} {B : Nat} {ts : List TypeId} {J : β → World → Prop} (h : StabP B ts J) : OwnFrom B J := fun s W W' row hs hg hr =>
  h s W W' hs (KeepP.grown hg fun r e o ho hn => hn (by
    obtain ⟨hB, o', h1, h2⟩ := hr r e
    rw [ho] at h1
    cases h1
    exact ⟨hB, .inl h2⟩))
theorem StabP.mono {β : Type} {B B' : Nat} {ts : List TypeId} {J : β → World → Prop} (h : StabP B ts J) (hB : B ≤ B') : StabP B' ts J := fun s W W' hs hk => h s W W' hs (hk.mono fun k o hn ho => hn (ho.wide hB))
theorem StabP.and {β : Type} {B : Nat} {ts : List TypeId} {J K : β → World → Prop} (h : StabP B ts J) (k : StabP B ts K) : StabP B ts (fun s W => J s W ∧ K s W) := fun s W W' hs hk => ⟨h s W W' hs.1 hk, k s W W' hs.2 hk⟩
theorem stabP_below {β : Type} {B n : Nat} {ts : List TypeId} {w : World} (hn : n ≤ B) (hw : n ≤ w.heap.size) : StabP B ts (fun (_ : β) W => Below n w W) := fun _ W W' hs hk => by
  refine ⟨hk.os.trans hs.os, hk.tape.trans hs.tape, hk.output.trans hs.output, Nat.le_trans hs.size hk.size, fun i hi => ?_⟩
  have h1 := hs.block i hi
  cases hx : W.heap[i]? with
  | none =>
    have hsz := hs.size
    have := Array.getElem?_eq_none_iff.1 hx
    omega
  | some o =>
    rw [← h1, hx]
    exact hk.same i o hx (fun ho => by have := ho.1; omega)
section
variable {F : Fence} {n : Nat} {P : Program}
/-- As SeqO, of an iterator that writes cells of the types ts in blocks of its own. -/
def SeqP {α : Type} (F : Fence) (n : Nat) (P : Program) (g : Nat) (lb : Array Value) (encs : α → Array Value) (Kp : World → World → Prop) (S Sp : List α → Prop) (Ok : List α → α → Prop) (ts : List TypeId) (w : World) : Prop :=
  ∀ (l : Nat) (J Jx : List α → World → Prop) (W : World), Below w.heap.size w W → w.heap.size + 2 ≤ W.heap.size → StabP W.heap.size ts J → StabP W.heap.size ts Jx →
    (∀ pre x W1, J pre W1 → Ok pre x → YieldAt F (n - 1) P l (encs x) W1 fun e W' =>
      (e = .returned (.bool true) ∧ J (pre ++ [x]) W' ∧ Kp W1 W') ∨ (e = .returned (.bool false) ∧ Jx (pre ++ [x]) W' ∧ Kp W1 W')) →
    J [] W →
    CallsIn F n P g (#[.func (.yield l) #[] #[]] ++ lb) W fun e W' => (∃ v, e = .returned v) ∧ ((∃ xs, S xs ∧ J xs W') ∨ (∃ pre, Sp pre ∧ Jx pre W'))
theorem range_p {α : Type} {g : Operand} {ps : Array Tmp} {assign body : Code} {Q : Exit → Act → World → Prop} {a : Act} {w : World}
    (hro : F.round = none) (h1 : 1 ≤ n) {gf : Nat} {lb : Array Value} (hg : a.eval g = .func (.func gf) #[] lb) (hF : F.fn gf) (eg : ∀ args w, (callFunc gf args).run P w = .ok (.enter gf args) w)
    {encs : α → Array Value} {Kp : World → World → Prop} {S Sp : List α → Prop} {Ok : List α → α → Prop} {ts : List TypeId} {w0 : World} (hseq : SeqP F (n - 1) P gf lb encs Kp S Sp Ok ts w0)
    (hKt : ∀ {A B C : World}, Kp A B → Kp B C → Kp A C) (hKb : ∀ (W : World) (o o' : Obj), W.heap[w.heap.size + 1]? = some o → o.isCells = false → Kp W (W.putObj (w.heap.size + 1) o')) (hb0 : Below w0.heap.size w0 w) (hps : ∀ x, (encs x).size = ps.size)
    (I : List α → World → Prop) (Ix : Code → List α → World → Prop) (hIP : StabP w.heap.size ts I) (hIxP : ∀ c, StabP w.heap.size ts (Ix c)) (h0 : I [] w) (Ax : α → Act → World → Prop) (hAx : ∀ x a', OwnFrom w.heap.size (fun (_ : Unit) W => Ax x a' W))
    (hassign : ∀ (l : Nat) (pre : List α) (x : α) (W : World) (K : Act → World → Prop), I pre W → (∀ a' W', KeepsFrom w.heap.size W W' → Kp W W' → I pre W' → Ax x a' W' → K a' W') →
      assign.wpIn (F.inRound l) (n - 1 - 1) P (Exit.then K (fun _ _ _ => False)) { tmps := (ps.zip (encs x)).foldl (fun t (p, v) => t.setIfInBounds p v) a.tmps, defers := [] } W)
    (hbody : ∀ (l : Nat) (pre : List α) (x : α) (a' : Act) (W : World), I pre W → Ax x a' W → Ok pre x → body.wpIn (F.inRound l) (n - 1 - 1) P (postW w.heap.size Kp I Ix (pre ++ [x]) W) a' W)
    (hdone : ∀ (D : Nat) (xs : List α) (W : World), w.heap.size ≤ D → S xs → I xs W → W.heap[D]? = some (.deferred (some [])) → Q .normal { a with defers := { target := .collected D, args := #[] } :: a.defers } W)
    (hstop : ∀ (D : Nat) (c : Code) (pre : List α) (W : World), w.heap.size ≤ D → Sp pre → Ix c pre W → W.heap[D]? = some (.deferred (some [])) → c.wpIn F n P Q { a with defers := { target := .collected D, args := #[] } :: a.defers } W) :
    (Code.rangeFunc g ps assign body).wpIn F n P Q a w := by
  have hI := hIP.own
  have hIx := fun c => (hIxP c).own
  refine wpIn_rangeFunc ?_
  intro fn hfn
  rw [hro]
  -- the record in its states
  obtain ⟨rec, hrec⟩ : ∃ rec : LoopState → Option Code → Loop, rec = fun st pe => { state := st, pending := pe, fn, tmps := a.tmps, params := ps, assign, body, defers := w.heap.size } := ⟨_, rfl⟩
  have hpar : ∀ st pe, (rec st pe).params = ps := fun st pe => by rw [hrec]
  obtain ⟨V, hV⟩ : ∃ V, (w.alloc (.deferred (some []))).alloc (.loop (rec .ready none)) = V := ⟨_, rfl⟩
  have hVs : V.heap.size = w.heap.size + 1 + 1 := by rw [← hV]; simp
  have hrecV : V.heap[w.heap.size + 1]? = some (.loop (rec .ready none)) := by
    rw [← hV]
    have := World.alloc_heap_new (w.alloc (.deferred (some []))) (.loop (rec .ready none))
    rwa [World.size_alloc] at this
  have hdefV : V.heap[w.heap.size]? = some (.deferred (some [])) := by
    rw [← hV]
    exact (Below.heap_alloc _ _ _ (by simp)).trans (World.alloc_heap_new w _)
  have hIV : I [] V := by rw [← hV]; exact hI.alloc _ (hI.alloc _ h0)
  have hbV : Below w0.heap.size w0 V := by
    rw [← hV]
    exact hb0.trans ((((Below.refl _ w).alloc (Nat.le_refl _) _).alloc (by simp) _).mono hb0.size)
  refine ⟨w.heap.size + 1, [{ target := .collected w.heap.size, args := #[] }], V, { target := .fn (.func gf) lb, args := #[.func (.yield (w.heap.size + 1)) #[] #[]] }, V, gf,
    #[.func (.yield (w.heap.size + 1)) #[] #[]] ++ lb, V, ?enter, ?what, ?lead, ?call, fun _ => h1, ?run⟩
  case enter => rw [← hV, hrec]; exact run_enterLoop_outer _ _ _ _ _
  case what =>
    simp only [resolve, hg]
    simp [go_sem]
  case lead =>
    intro f' hf'
    simp [Target.leads] at hf'
    subst hf'
    exact hF
  case call => simp [invoke, go_sem, eg]
  case run =>
    refine (hseq (w.heap.size + 1)
      (fun pre W => I pre W ∧ W.heap[w.heap.size + 1]? = some (.loop (rec .ready none)) ∧ W.heap[w.heap.size]? = some (.deferred (some [])))
      (fun pre W => ∃ c, Ix c pre W ∧ W.heap[w.heap.size + 1]? = some (.loop (rec .done (some c))) ∧ W.heap[w.heap.size]? = some (.deferred (some [])))
      V hbV (by have := hb0.size; omega)
      (fun s A B hs hg' => ⟨hIP s A B hs.1 (hg'.mono fun k o hn ho => hn ⟨by have := ho.1; omega, ho.2⟩), hg'.same _ _ hs.2.1 (fun ho => by have := ho.1; omega), hg'.same _ _ hs.2.2 (fun ho => by have := ho.1; omega)⟩)
      (fun s A B hs hg' => by
        obtain ⟨c, hc, hl, hk⟩ := hs
        exact ⟨c, hIxP c s A B hc (hg'.mono fun k o hn ho => hn ⟨by have := ho.1; omega, ho.2⟩), hg'.same _ _ hl (fun ho => by have := ho.1; omega), hg'.same _ _ hk (fun ho => by have := ho.1; omega)⟩)
      ?round ⟨hIV, hrecV, hdefV⟩).mono ?behind
    case round =>
      rintro pre x W ⟨hi, hl, hk⟩ hlen
      have hy := run_yield (P := P) (args := encs x) hl (by rw [hpar]; exact hps x)
      rw [hrec] at hy
      refine ⟨fn, _, assign, body, hy, roundIn_of_wpIn hfn (hassign _ pre x W _ hi ?_)⟩
      clear hy
      intro a' W2 hkf hkp hi2 hax
      have hl2 := hkf.same _ _ (by omega) hl rfl
      have hk2 := hkf.same _ _ (Nat.le_refl _) hk rfl
      have hlt : w.heap.size + 1 < W2.heap.size := (Array.getElem?_eq_some_iff.1 hl2).1
      refine ⟨_, run_beginRound hl2 (by rw [hrec]), ?_⟩
      obtain ⟨busy, hbusy⟩ : ∃ b : Loop, { rec .ready none with state := .busy } = b := ⟨_, rfl⟩
      rw [hbusy]
      have hl3 : (W2.putObj (w.heap.size + 1) (.loop busy)).heap[w.heap.size + 1]? = some (.loop busy) := World.putObj_heap_same hlt
      have hk3 : (W2.putObj (w.heap.size + 1) (.loop busy)).heap[w.heap.size]? = some (.deferred (some [])) := (World.putObj_heap_other (by omega)).trans hk2
      have hp3 : Kp W2 (W2.putObj (w.heap.size + 1) (.loop busy)) := hKb _ _ _ hl2 rfl
      refine wpIn_mono (hbody _ pre x a' _ (hI.putObj _ hi2 (by omega) hl2 rfl) ((hAx x a').putObj (s := ()) _ hax (by omega) hl2 rfl) hlen) ?_
      have fin : ∀ (jump : Option Code) (W3 : World), KeepsFrom w.heap.size (W2.putObj (w.heap.size + 1) (.loop busy)) W3 →
          (Instr.endRound (w.heap.size + 1) jump).run P W3 = .ok (.bool jump.isNone) (W3.putObj (w.heap.size + 1) (.loop (rec (if jump.isNone then .ready else .done) jump))) ∧
          W3.heap[w.heap.size + 1]? = some (.loop busy) ∧
          (W3.putObj (w.heap.size + 1) (.loop (rec (if jump.isNone then .ready else .done) jump))).heap[w.heap.size + 1]? = some (.loop (rec (if jump.isNone then .ready else .done) jump)) ∧
          (W3.putObj (w.heap.size + 1) (.loop (rec (if jump.isNone then .ready else .done) jump))).heap[w.heap.size]? = some (.deferred (some [])) := fun jump W3 hkW => by
        have hl4 := hkW.same _ _ (by omega) hl3 rfl
        have hrun := run_endRound (P := P) jump hl4
        rw [← hbusy, hrec] at hrun
        rw [hrec]
        exact ⟨hrun, hl4, World.putObj_heap_same (Array.getElem?_eq_some_iff.1 hl4).1, (World.putObj_heap_other (by omega)).trans (hkW.same _ _ (Nat.le_refl _) hk3 rfl)⟩
      rintro e a3 W3 hp
      cases e with
      | normal =>
        obtain ⟨hkW, hkp3, hi3⟩ := hp
        obtain ⟨hr, hl4, hl5, hk5⟩ := fin none W3 hkW
        exact ⟨_, _, hr, .inl ⟨rfl, ⟨hI.putObj _ hi3 (by omega) hl4 rfl, hl5, hk5⟩, hKt hkp (hKt (hKt hp3 hkp3) (hKb _ _ _ hl4 rfl))⟩⟩
      | ret =>
        obtain ⟨hkW, hkp3, hi3⟩ := hp
        obtain ⟨hr, hl4, hl5, hk5⟩ := fin (some .ret) W3 hkW
        exact ⟨_, _, hr, .inr ⟨rfl, ⟨.ret, (hIx _).putObj _ hi3 (by omega) hl4 rfl, hl5, hk5⟩, hKt hkp (hKt (hKt hp3 hkp3) (hKb _ _ _ hl4 rfl))⟩⟩
      | exit id =>
        obtain ⟨hkW, hkp3, hi3⟩ := hp
        obtain ⟨hr, hl4, hl5, hk5⟩ := fin (some (.exit id)) W3 hkW
        exact ⟨_, _, hr, .inr ⟨rfl, ⟨.exit id, (hIx _).putObj _ hi3 (by omega) hl4 rfl, hl5, hk5⟩, hKt hkp (hKt (hKt hp3 hkp3) (hKb _ _ _ hl4 rfl))⟩⟩
      | goto t =>
        obtain ⟨hkW, hkp3, hi3⟩ := hp
        obtain ⟨hr, hl4, hl5, hk5⟩ := fin (some (.goto t)) W3 hkW
        exact ⟨_, _, hr, .inr ⟨rfl, ⟨.goto t, (hIx _).putObj _ hi3 (by omega) hl4 rfl, hl5, hk5⟩, hKt hkp (hKt (hKt hp3 hkp3) (hKb _ _ _ hl4 rfl))⟩⟩
      | panic ch => exact hp.elim
      | outgrown => exact hp.elim
    case behind =>
      rintro e W2 ⟨⟨v, rfl⟩, hend⟩
      rcases hend with ⟨xs, hS, hi, hl, hk⟩ | ⟨pre, hSp, c, hi, hl, hk⟩
      · have hrun := run_endLoop (P := P) hl (by rw [hrec]; simp)
        rw [hrec] at hrun
        exact ⟨none, _, hrun, hdone _ xs _ (Nat.le_refl _) hS (hI.putObj _ hi (by omega) hl rfl) ((World.putObj_heap_other (by omega)).trans hk)⟩
      · have hrun := run_endLoop (P := P) hl (by rw [hrec]; simp)
        rw [hrec] at hrun
        exact ⟨some c, _, hrun, hstop _ c pre _ (Nat.le_refl _) hSp ((hIx c).putObj _ hi (by omega) hl rfl) ((World.putObj_heap_other (by omega)).trans hk)⟩
end
end Go.Proofs.YtaakaajcpjiccaaDoor
