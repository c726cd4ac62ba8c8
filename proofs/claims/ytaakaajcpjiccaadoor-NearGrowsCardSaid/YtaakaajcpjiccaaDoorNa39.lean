/-
  cmp.Or at two numbers; near.Near$1. legal.Trie. A region that draws its order within a round: what holds of it in the plain orders holds of it there. The sort of near.Near's row.
-/
import Derived.StillTailTactics
import Derived.OrdersHeld
import Derived.Deep.RegionHeld
import Derived.Test.YtaakaajcpjiccaaDoorSrt
import Derived.Test.YtaakaajcpjiccaaDoorNa34
import Derived.Test.YtaakaajcpjiccaaDoorNa38
set_option linter.unusedVariables false
set_option linter.unusedSimpArgs false
namespace Go.Proofs.YtaakaajcpjiccaaDoor
open Go.RowKit
open Go.Proofs
open Go.Shelf

def orN (a b : Int) : Int := if a = 0 then b else a
set_option maxHeartbeats 1000000 in
theorem or_any (a b : Int) (g : Nat) (w : World) (h0 : w.cell? ⟨g, 0, none⟩ = some (.int .i64 a)) (h1 : w.cell? ⟨g, 1, none⟩ = some (.int .i64 b)) : Calls Tryd.prog 24 #[.slice (some ⟨g, 0, none⟩) 2 2] w fun e w' => e = .returned (.int .i64 (orN a b)) ∧ w' = w := by
  have HO : Hid (∀ x : Int, orN 0 x = x) := fun x => by unfold orN; rw [if_pos rfl]
  have HN : Hid (∀ x y : Int, x ≠ 0 → orN x y = x) := fun x y h => by unfold orN; rw [if_neg h]
  go_enter Tryd.func24, Tryd.ntmps24
  go_wp2
  refine wp_loop_rounds 3 ?_
  rw [rounds_succ]
  by_cases ha : a = 0
  · subst ha
    go_wp2
    rw [rounds_succ]
    by_cases hb : b = 0
    · subst hb
      go_wp2
      rw [rounds_succ]
      go_wp2
      go_ret
      exact ⟨by rw [HO.out]; rfl, rfl⟩
    · have hne : ((b : Int) != 0) = true := by simpa using hb
      go_wp2
      go_ret
      exact ⟨by rw [HO.out]; rfl, rfl⟩
  · have hne : ((a : Int) != 0) = true := by simpa using ha
    go_wp2
    go_ret
    exact ⟨by rw [HN.out _ _ ha]; rfl, rfl⟩
theorem near_grow (w : World) (a b c : Obj) : ∃ q os, (((w.alloc a).alloc b).alloc c).drew = Sort.grow (w.drewN q) os := by
  refine ⟨1, (#[a] ++ #[b]) ++ #[c], ?_⟩
  show ((w.drew.alloc a).alloc b).alloc c = _
  rw [Sort.alloc_eq_grow, Sort.alloc_eq_grow, Sort.alloc_eq_grow, Sort.grow_grow, Sort.grow_grow]
  rfl
/-- By distances, and ranks. -/
def cmpN (x y : NearD) : Int := orN (Lib.compareInt (x.2.1 : Int) (y.2.1 : Int)) (Lib.compareInt (x.2.2 : Int) (y.2.2 : Int))
set_option maxRecDepth 100000 in
set_option maxHeartbeats 2000000 in
theorem near1_any (x y : NearD) (w : World) : Calls Tryd.prog 23 #[.agg (nearV x).toArray, .agg (nearV y).toArray] w fun e w' => e = .returned (.int .i64 (cmpN x y)) ∧ ∃ q os, w' = Sort.grow (w.drewN q) os := by
  have HC1 := fun X : World => Lib.hid (Tryd.cmp_Compare_int (x.2.1 : Int) (y.2.1 : Int) X)
  have HC2 := fun X : World => Lib.hid (Tryd.cmp_Compare_int (x.2.2 : Int) (y.2.2 : Int) X)
  have HCN : Hid (cmpN x y = orN (Lib.compareInt (x.2.1 : Int) (y.2.1 : Int)) (Lib.compareInt (x.2.2 : Int) (y.2.2 : Int))) := rfl
  obtain ⟨xt, xd, xr⟩ := x
  obtain ⟨yt, yd, yr⟩ := y
  simp only [nearV] at HC1 HC2 HCN ⊢
  have n1 := two_new w #[.string xt, .int .i64 (xd : Int), .int .i64 (xr : Int)] #[.string yt, .int .i64 (yd : Int), .int .i64 (yr : Int)] 42 42
  generalize Lib.compareInt (xd : Int) (yd : Int) = c1 at HC1 HCN ⊢
  generalize Lib.compareInt (xr : Int) (yr : Int) = c2 at HC2 HCN ⊢
  generalize cmpN (xt, xd, xr) (yt, yd, yr) = cn at HCN ⊢
  go_enter Tryd.func23, Tryd.ntmps23
  go_wp2
  obtain ⟨V, hV⟩ : ∃ V, (w.alloc (.cells #[.string xt, .int .i64 (xd : Int), .int .i64 (xr : Int)] 42)).alloc (.cells #[.string yt, .int .i64 (yd : Int), .int .i64 (yr : Int)] 42) = V := ⟨_, rfl⟩
  rw [hV] at n1 ⊢
  have HV := Lib.hid hV
  have x1 := cellB n1.1 (j := 1) rfl
  have x2 := cellB n1.1 (j := 2) rfl
  have y1 := cellB n1.2 (j := 1) rfl
  have y2 := cellB n1.2 (j := 2) rfl
  clear hV n1
  go_still_tail 10, (by kernel_rfl)
  still_call (HC1 _).out
  repeat still_step
  still_call (HC2 _).out
  repeat still_step
  refine wpStill_nil ?_
  change wpList _ _ _ _ _ V.drew
  have HOR : Hid (∀ X, X = V.drew.alloc (.cells #[.int .i64 c1, .int .i64 c2] 3) → Calls Tryd.prog 24 #[.slice (some ⟨V.heap.size, 0, none⟩) 2 2] X fun e w' => e = .returned (.int .i64 (orN c1 c2)) ∧ w' = X) := fun X hX => by
    subst hX
    exact or_any c1 c2 V.heap.size _ (cellNew3 (w := V.drew) rfl rfl) (cellNew3 (w := V.drew) rfl rfl)
  go_wp2_with (go_at_call 24; refine (HOR.out _ rfl).mono ?_; rintro e w' ⟨rfl, rfl⟩)
  go_ret
  refine ⟨by rw [HCN.out]; rfl, ?_⟩
  rw [← HV.out]
  exact near_grow w _ _ _
end Go.Proofs.YtaakaajcpjiccaaDoor
namespace Go.Proofs.YtaakaajcpjiccaaDoor
open Go.RowKit
open Go.Proofs
open Go.Shelf

section
variable {n r : Nat} {P : Program} {ops : Array Oper} {md : Region.Mode} {Q : Exit → Act → World → Prop}
theorem rowsIn_of {row : String} {args : Array Value} {w : World} {R : Value → World → Prop} (h : Rows P row args w R) : RowsIn (Fence.wide.inRound r) n P row args w R := fun c cs _ => by
  obtain ⟨v, w', h1, h2⟩ := h c cs
  exact ⟨v, w', h1, stepsIn_wide.2 h2⟩
theorem operIn_of_plain {o : Oper} {a : Act} {w : World} {K : Act → World → Prop} (hd : ∀ c, o.op ≠ .defer c) (h : o.wp P a w K Q) : o.wpIn (Fence.wide.inRound r) n P a w K Q := by
  unfold Oper.wp at h
  unfold Oper.wpIn
  refine ⟨fun _ _ => trivial, ?_⟩
  rw [Fence.inRound_round, Oper.semAt_some _ _ _ hd]
  generalize (execOp a.eval o).run P w = r' at *
  cases r' with
  | ok x w' =>
    cases x <;> simp only [Oper.upon] at h <;> simp only [Oper.uponIn]
    case value => exact h
    case skip => exact h
    case defer => exact h
    case enter f args => exact ⟨(fun e => by cases e), callsIn_wide.2 h⟩
    case row row args => exact ⟨(fun e => by cases e), rowsIn_of h⟩
  | halt x w' =>
    cases x <;> simp only [Oper.upon] at h <;> simp only [Oper.uponIn] <;> exact h
theorem opIn_of_plain {l : List Oper} {i : Nat} {a : Act} {w : World} {K K' : Act → World → Prop} (hd : noDefer l = true) (hlo : ¬ LetsOut Q) (hK : ∀ a w, K a w → K' a w) (h : wpOp P l.toArray Q i K a w) : wpOpIn (Fence.wide.inRound r) n P l.toArray Q i K' a w := by
  have h := wpOp_mono hK h
  unfold wpOp at h
  unfold wpOpIn
  cases ho : l.toArray[i]? with
  | none => simp only [ho] at h ⊢; exact h
  | some o =>
    simp only [ho] at h ⊢
    have hdo := noDefer_spec hd (i := i) (by simpa using ho)
    split
    · rename_i hw
      simp only [hw, if_true] at h
      rcases h with h | ⟨_, h⟩
      · exact operIn_of_plain hdo h
      · exact (hlo h).elim
    · rename_i hw; simp only [hw] at h; exact ⟨fun _ _ => trivial, h⟩
theorem anyIn_of_plain {l : List Oper} (hd : noDefer l = true) (hlo : ¬ LetsOut Q) : ∀ (fuel : Nat) (listed : Array Bool) (a : Act) (w : World), wpAny P md l.toArray Q fuel listed a w → wpAnyIn (Fence.wide.inRound r) n P md l.toArray Q fuel listed a w
  | 0, _, _, _, h => h
  | fuel + 1, _, _, _, h => ⟨h.1, fun i hi => opIn_of_plain hd hlo (fun a w k => anyIn_of_plain hd hlo fuel _ a w k) (h.2 i hi)⟩
/-- The held orders, within a round. -/
theorem held_round {id : Nat} {a : Act} {w : World} {l : List Oper} (S : World → Prop) (hm : P.follows .mixedOrders = true) (hd : noDefer l = true) (hlo : ¬ LetsOut Q)
    (h : wpAnyH P .any l.toArray Q S l.length (Array.replicate l.length false) a w.drew) : (Code.region id l.toArray true).wpIn (Fence.wide.inRound r) n P Q a w :=
  wpIn_region_any hm (anyIn_of_plain hd hlo _ _ _ _ (wpAny_of_held _ _ _ _ h))
end
/-! legal.Trie. -/
theorem rowB_len (n : Int) : (rowB n).length ≤ 1056 := by
  unfold rowB symsN
  rw [List.length_map]
  split
  · rw [← symsTo_all]
    exact symsTo_le _ 21 0 (by omega) (by omega)
  · simp
set_option maxHeartbeats 1000000 in
theorem legalTrie_any (n : Int) (w : World) (hL : Laid w) (hne : rowB n ≠ []) : Calls Tryd.prog 21 #[.int .i64 n] w fun e w' => ∃ tp mbs, e = .returned (.pointer (some ⟨tp, 0, none⟩)) ∧ w.heap.size ≤ tp ∧ TrieAt w' tp tp mbs (buildT (rowB n)) ∧ Below w.heap.size w w' ∧ ∀ m ∈ mbs, w.heap.size ≤ m := by
  have HR := Lib.hid (row_any n w hL)
  have hlen := rowB_len n
  have hshort := Lib.hid (rowB_short n)
  have hpos : 0 < (rowB n).length := List.length_pos_iff.2 hne
  generalize rowB n = R at HR hlen hshort hpos hne ⊢
  have hz : ((R.length : Int) == 0) = false := by rw [beq_eq_false_iff_ne]; omega
  go_enter Tryd.func21, Tryd.ntmps21
  go_wp2_with (go_at_call 15; refine HR.out.mono ?_; rintro e w1 ⟨v, rfl, ho, hb⟩; obtain ⟨a, c, rfl, h2⟩ := ho.sl)
  have HO := Lib.hid ho
  have HB := Lib.hid hb
  have HBD := Lib.hid (build_any R (.slice a R.length c) w1 ho.strs (fun s hs => by have := hshort.out s hs; omega) (by omega))
  clear ho hb h2
  go_wp2_with (go_at_call 29; refine HBD.out.mono ?_; rintro e w2 ⟨rfl, mbs, hT, hb2, hm⟩)
  have HE := Lib.hid (And.intro hT (And.intro hb2 hm))
  clear hT hb2 hm
  go_ret
  obtain ⟨hT, hb2, hm⟩ := HE.out
  exact ⟨_, mbs, rfl, HB.out.size, hT, HB.out.trans (hb2.mono HB.out.size), fun m h => Nat.le_trans HB.out.size (hm m h)⟩
end Go.Proofs.YtaakaajcpjiccaaDoor
namespace Go.Proofs.YtaakaajcpjiccaaDoor
open Go.RowKit
open Go.Proofs
open Go.Shelf

/-- Ahead of, by distances, and ranks. -/
def ltN (x y : NearD) : Bool := decide (x.2.1 < y.2.1 ∨ (x.2.1 = y.2.1 ∧ x.2.2 < y.2.2))
theorem ltOf_cmpN (x y : NearD) : ltOf cmpN x y = ltN x y := by
  unfold ltOf cmpN orN Lib.compareInt ltN
  by_cases h1 : (x.2.1 : Int) < (y.2.1 : Int)
  · simp [h1]; omega
  · by_cases h2 : (y.2.1 : Int) < (x.2.1 : Int)
    · simp [h1, h2]; omega
    · have h3 : x.2.1 = y.2.1 := by omega
      by_cases h4 : (x.2.2 : Int) < (y.2.2 : Int)
      · simp [h3, h4]; omega
      · by_cases h5 : (y.2.2 : Int) < (x.2.2 : Int)
        · simp [h3, h4, h5]; omega
        · simp [h3, h4, h5]; omega
theorem swoN : Sort.SWO (ltOf cmpN) where
  irrefl x := by rw [ltOf_cmpN]; simp [ltN]
  trans x y z h1 h2 := by rw [ltOf_cmpN] at *; simp only [ltN, decide_eq_true_eq] at *; omega
  ntrans x y z h1 h2 := by rw [ltOf_cmpN] at *; simp only [ltN, decide_eq_false_iff_not] at *; omega
theorem isAggN : ∀ w, (isAgg 42).run Tryd.prog w = .ok true w := fun w => by kernel_rfl
theorem sizeN : ∀ w, (Go.sizeOf 42).run Tryd.prog w = .ok 3 w := fun w => by kernel_rfl
theorem near1_lays (blk off size : Nat) (w : World) : CmpLays Tryd.prog 23 #[] nearV 3 cmpN blk off size w := fun m os dk hs x y => near1_any x y _
/-! Of no element. -/
theorem insertionN_nil (p : Option Addr) (cap : Nat) (fv : Value) (w : World) :
    Calls Tryd.prog 52 #[.slice p 0 cap, .int .i64 0, .int .i64 0, fv] w fun e w' => e = .returned (.tuple #[]) ∧ w' = w := by
  go_enter Tryd.func52, Tryd.ntmps52
  go_wp2
  refine wp_loop_rounds 1 ?_
  rw [rounds_succ]
  go_wp2
  go_end0
  exact ⟨rfl, rfl⟩
set_option maxRecDepth 100000 in
theorem pdqN_nil (p : Option Addr) (cap : Nat) (fv : Value) (w : World) :
    Calls Tryd.prog 37 #[.slice p 0 cap, .int .i64 0, .int .i64 0, .int .i64 0, fv] w fun e w' => e = .returned (.tuple #[]) ∧ w' = w := by
  go_enter Tryd.func37, Tryd.ntmps37
  go_wp2
  refine wp_loop_rounds 1 ?_
  rw [rounds_succ]
  go_wp2_with (first | (go_at_call 52; refine (insertionN_nil p cap fv _).mono ?_; rintro e w' ⟨rfl, rfl⟩))
  refine bodyPost_ret (results_none rfl _ _ _) rfl ?_
  exact ⟨rfl, rfl⟩
set_option maxRecDepth 100000 in
theorem sortN_nil (p : Option Addr) (cap : Nat) (fv : Value) (w : World) :
    Calls Tryd.prog 22 #[.slice p 0 cap, fv] w fun e w' => e = .returned (.tuple #[]) ∧ w' = w := by
  have hLen : ∀ w, Calls Tryd.prog 38 #[.int .u64 0] w fun e w' => e = .returned (.int .i64 0) ∧ w' = w := fun w => Tryd.bits_Len 0 w (by omega) (by omega)
  go_enter Tryd.func22, Tryd.ntmps22
  go_wp2_with (first
    | (go_at_call 38; refine (hLen _).mono ?_; rintro e w' ⟨rfl, rfl⟩)
    | (go_at_call 37; refine (pdqN_nil p cap fv _).mono ?_; rintro e w' ⟨rfl, rfl⟩))
  go_end0
  exact ⟨rfl, rfl⟩
/-! Whatever is sorted. -/
theorem flat_at (l : List NearD) (t : Nat) (h : t < l.length * 3) : (l.flatMap nearV)[t]? = (nearV (l[t / 3]'(by omega)))[t % 3]? := by
  have h1 := flat_take nearV 3 l (fun a _ => rfl) (t / 3) (by omega)
  rw [← h1, List.getElem?_take_of_lt (by omega), List.getElem?_drop]
  congr 1
  omega
theorem flatK_list (l : List NearD) : (Sort.flatK nearV 3 l.toArray).toList = l.flatMap nearV := by
  apply List.ext_getElem?
  intro t
  have hlen : (l.flatMap nearV).length = l.length * 3 := by
    induction l with
    | nil => rfl
    | cons a l ih => simp only [List.flatMap_cons, List.length_append, ih, nearV, List.length_cons, List.length_nil]; omega
  by_cases h : t < l.length * 3
  · rw [flat_at l t h]
    have h2 : (nearV (l[t / 3]'(by omega)))[t % 3]? = some ((nearV (l[t / 3]'(by omega)))[t % 3]'(by simp only [nearV, List.length_cons, List.length_nil]; omega)) := List.getElem?_eq_getElem _
    rw [h2]
    have h3 : t / 3 < l.length := by omega
    have h4 : t % 3 < (nearV (l[t / 3]'h3)).length := by simp only [nearV, List.length_cons, List.length_nil]; omega
    simp only [Sort.flatK, Array.toList_map, List.getElem?_map, Array.toList_range, List.size_toArray]
    rw [List.getElem?_range h]
    simp only [Option.map_some]
    rw [getElem!_pos l.toArray (t / 3) (by simpa using h3)]
    simp only [List.getElem_toArray]
    rw [getElem!_pos _ (t % 3) h4]
  · rw [List.getElem?_eq_none (by rw [Array.length_toList, Sort.size_flatK]; simpa using h), List.getElem?_eq_none (by omega)]
theorem sortN_any (B : Nat) (v : Value) (l : List NearD) (W : World) (hown : OwnNe W B v l) (hBW : B ≤ W.heap.size) (hl : l.length ≤ 100000) :
    Calls Tryd.prog 22 #[v, .func (.func 23) #[] #[]] W fun e w' =>
      e = .returned (.tuple #[]) ∧ ∃ l' : List NearD, OwnNe w' B v l' ∧ l'.Perm l ∧ l'.Pairwise (fun x y => ltN y x = false) ∧ W.grownBy w' v.ownBlock := by
  rcases hown.2 with ⟨rfl, hz⟩ | ⟨g, cap, cur, rfl, hbase, hgb, r1, r2, r3, r4⟩
  · have hnil : l = [] := List.eq_nil_of_length_eq_zero hz
    subst hnil
    refine (sortN_nil none 0 _ W).mono ?_
    rintro e w' ⟨rfl, hw⟩
    rw [hw]
    exact ⟨rfl, [], hown, List.Perm.refl _, List.Pairwise.nil, ⟨rfl, rfl, rfl, Nat.le_refl _, fun _ _ _ => rfl⟩⟩
  · have hgl : g < W.heap.size := (Array.getElem?_eq_some_iff.1 hgb).1
    have hH : Sort.HoldsK nearV 3 W g 0 l.toArray := by
      intro j hj
      have hj' : j < l.length * 3 := by simpa using hj
      refine ⟨?_, by simp [World.frozen?, hgb]⟩
      have h1 : (cur.toList.take (l.length * 3))[j]? = (Sort.flatK nearV 3 l.toArray).toList[j]? := by rw [flatK_list, r4]
      rw [List.getElem?_take_of_lt hj'] at h1
      simp only [World.cell?, hgb, Nat.zero_add]
      simp only [Option.isSome_none, Bool.false_eq_true, if_false]
      rw [← Array.getElem?_toList, h1, Array.getElem?_toList, Array.getElem?_eq_getElem hj, id, getElem!_pos _ j hj]
    have hs := AnyQ.slices_SortFunc Tryd.sortNear 3 isAggN sizeN nearV (fun _ => rfl) (fun x v hv => by simp [nearV] at hv; rcases hv with rfl | rfl | rfl <;> rfl) cmpN swoN 23 #[] g 0 cap l.toArray W (enters_of Tryd.func23 (by kernel_rfl) rfl) (near1_lays _ _ _ _) hH hgl (by simp; omega)
    refine Calls.mono (R := _) hs ?_
    rintro e w' ⟨rfl, d', n, os, hp, hso, rfl⟩
    have hds : d'.size = l.length := by have := hp.1; simpa using this
    have hheap : (sortWorldK nearV 3 W g 0 n d' os).heap[g]? = some (.cells (Sort.putCells id 0 (Sort.flatK nearV 3 d') cur) 42 (0, 0)) := by
      unfold sortWorldK Sort.putRowK
      rw [Sort.heap_grow_old _ _ (by simpa using hgl)]
      simp [Sort.putRow, Sort.mapBlock, Sort.ahead, Array.getElem?_modify, hgb, Sort.onCells]
    have hgr : W.grownBy (sortWorldK nearV 3 W g 0 n d' os) (some g) := by
      unfold sortWorldK Sort.putRowK
      refine ⟨rfl, rfl, rfl, by simp, fun k hk hne => ?_⟩
      rw [Sort.heap_grow_old _ _ (by simpa using hk)]
      have : g ≠ k := fun e => hne (by rw [e])
      simp [Sort.putRow, Sort.mapBlock, Sort.ahead, Array.getElem?_modify, this]
    have hdl : d'.toList.length = l.length := by rw [Array.length_toList, hds]
    have hlen : (d'.toList.flatMap nearV).length = l.length * 3 := by
      have := congrArg List.length (flatK_list d'.toList)
      rw [Array.length_toList, Sort.size_flatK] at this
      rw [← this]
      simp [hds]
    have hlc : l.length * 3 ≤ cur.size := by rw [r3]; exact Nat.mul_le_mul_right 3 r1
    refine ⟨rfl, d'.toList, ⟨by rw [hdl]; exact hlen, .inr ⟨g, cap, _, by rw [hdl], hbase, hheap, by rw [hdl]; exact r1, r2, by simpa [Sort.putCells] using r3, ?_⟩⟩, ?_, ?_, hgr⟩
    · have hfl : (Sort.flatK nearV 3 d').toList = d'.toList.flatMap nearV := by have := flatK_list d'.toList; simpa using this
      rw [← hfl, hdl]
      apply List.ext_getElem?
      intro j
      by_cases hj : j < l.length * 3
      · rw [List.getElem?_take_of_lt hj, Array.getElem?_toList, Array.getElem?_toList]
        have hjc : j < cur.size := by omega
        have hjf : j < (Sort.flatK nearV 3 d').size := by rw [Sort.size_flatK, hds]; exact hj
        rw [Array.getElem?_eq_getElem hjf]
        simp only [Sort.putCells, Array.getElem?_mapIdx, Array.getElem?_eq_getElem hjc, Option.map_some, Nat.zero_le, true_and, Nat.zero_add, Nat.sub_zero, id]
        rw [if_pos hjf, getElem!_pos _ j hjf]
      · rw [List.getElem?_take_eq_none (by omega), List.getElem?_eq_none (by rw [Array.length_toList, Sort.size_flatK, hds]; omega)]
    · have h1 := hp.2.2
      have e1 : d'.extract 0 l.toArray.size = d' := by
        have : l.toArray.size = d'.size := by rw [hds]; simp
        rw [this]; exact Array.extract_size
      have e2 : l.toArray.extract 0 l.toArray.size = l.toArray := Array.extract_size
      rw [e1, e2] at h1
      simpa using h1
    · rw [List.pairwise_iff_getElem]
      intro i j hi hj hij
      rw [Array.length_toList] at hi hj
      have h1 := hso i j (Nat.zero_le _) hij (by have := hj; rw [hds] at this; simpa using this)
      rw [getElem!_pos d' i hi, getElem!_pos d' j hj, ltOf_cmpN] at h1
      simpa using h1
end Go.Proofs.YtaakaajcpjiccaaDoor
