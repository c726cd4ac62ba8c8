/-
  near.Near.
-/
import Derived.Test.YtaakaajcpjiccaaDoorNa41
set_option linter.unusedVariables false
set_option linter.unusedSimpArgs false
namespace Go.Proofs.YtaakaajcpjiccaaDoor
open Go.RowKit
open Go.Proofs
open Go.Shelf
attribute [local go_sem] Oper.semAt_some

theorem keepP_block {B : Nat} {ts : List TypeId} {W W' : World} (hk : KeepP (fun k o => ¬ ownP B ts k o) W W') {k : Nat} {cs : Array Value} {t : TypeId} {fr : Nat × Nat} (h : W.heap[k]? = some (.cells cs t fr)) (ht : t ∉ ts) : W'.heap[k]? = some (.cells cs t fr) := hk.same k _ h (not_ownP_cells ht)
theorem keepP_row {B : Nat} {ts : List TypeId} {W W' : World} (hk : KeepP (fun k o => ¬ ownP B ts k o) W W') {n₀ size n : Nat} {e : TypeId} {v : Value} {xs : List Value} (h : W.ownsRow n₀ e size v n xs) (ht : e ∉ ts) : W'.ownsRow n₀ e size v n xs := by
  refine ⟨h.1, ?_⟩
  rcases h.2 with h1 | ⟨g, cap, cur, e1, hB, hgb, r⟩
  · exact .inl h1
  · exact .inr ⟨g, cap, cur, e1, hB, keepP_block hk hgb ht, r⟩
section
variable {P : Program} {ops : Array Oper} {md : Region.Mode} {Q : Exit → Act → World → Prop} {S : World → Prop}
theorem take_plain (i d : Nat) {oi : Oper} (v : Value) {fuel : Nat} {L : List Bool} {tmps : List Value} {ds : List Deferred} {w : World} (hi : ops[i]? = some oi) (hd : oi.dst = some d)
    (hs : Region.noSelect ops = true) (hf : Region.free md ops L.toArray i = true) (hr : (Region.ready md ops L.toArray).contains i = true)
    (hQ : ∀ c a w, Q (.panic c) (a.put oi.dst v) w → Q (.panic c) a w) (hy : YieldsIf P ops S oi v { tmps := tmps.toArray, defers := ds }) (hS : S w)
    (h : wpAnyH P md ops Q S fuel (L.set i true).toArray { tmps := (tmps.set d v).toArray, defers := ds } w) : wpAnyH P md ops Q S (fuel + 1) L.toArray { tmps := tmps.toArray, defers := ds } w := by
  refine wpAnyH_take hi hs hf hr hQ hy hS ?_
  rw [hd]
  simpa [Act.put] using h
end
/-- Between two rounds: the row so far, in its box; the symbols, in theirs. -/
structure NearI (w : World) (R : List ByteArray) (vr : Value) (rb ob : Nat) (pre : List (Nat × Nat)) (X : World) : Prop where
  out : ∃ v, Boxed X ob 26 v ∧ OwnNe X w.heap.size v (pre.map (nearOf R))
  rbox : X.heap[rb]? = some (.cells #[vr] 29 (0, 0))
  row : OwnS X w.heap.size vr R
  below : Below w.heap.size w X
theorem nearI_stab (w : World) (R : List ByteArray) (vr : Value) (rb ob B : Nat) (hB : w.heap.size ≤ B) : StabP B walkTs (NearI w R vr rb ob) := fun s X Y h hk => by
  obtain ⟨v, h1, h2⟩ := h.out
  exact ⟨⟨v, keepP_block hk h1 (by decide), keepP_row hk h2 (by decide)⟩, keepP_block hk h.rbox (by decide), keepP_row hk h.row (by decide), stabP_below (β := Unit) hB (Nat.le_refl _) () X Y h.below hk⟩
/-- What a round keeps. -/
def safeN (B : Nat) (mbs : List Nat) (tb : Nat) (k : Nat) (o : Obj) : Prop := ownP B walkTs k o ∨ (∃ cs t fr, o = .cells cs t fr ∧ t ∈ trieTs) ∨ (k ∈ mbs ∧ ∃ es c, o = .map es c) ∨ (tb ≤ k ∧ k < tb + 3 ∧ ∃ cs t fr, o = .cells cs t fr ∧ t ∈ [49, 9, 3])
theorem safeN_ok (B : Nat) (mbs : List Nat) (tb : Nat) : SafeW (safeN B mbs tb) B mbs := ⟨fun k o h => .inl h, fun k cs t fr h => .inr (.inl ⟨cs, t, fr, rfl, h⟩), fun m hm es c => .inr (.inr (.inl ⟨hm, es, c, rfl⟩))⟩
theorem rowB_nodup (n : Int) : (rowB n).Nodup := by
  unfold rowB symsN
  split
  · have h := syms_nodup (n.toNat - 1)
    unfold symRow at h
    have e : (symsF (n.toNat - 1)).map (fun x => (⟨x.1.toArray⟩ : ByteArray)) = ((symsF (n.toNat - 1)).map (·.1)).map fun l => (⟨l.toArray⟩ : ByteArray) := by rw [List.map_map]; rfl
    rw [e]
    exact List.Pairwise.map _ (fun a b hab e => hab (by have := congrArg ByteArray.data e; simpa using this)) h
  · simp
theorem nearN_none (n k : Int) (s : ByteArray) (h : rowB n = [] ∨ k < 0 ∨ 3 < k) : nearN n s k = [] := by
  unfold nearN
  split
  · rename_i hv
    rcases h with h | h | h
    · rw [h]
      unfold nearL nearQ
      simp
    · omega
    · omega
  · rfl
theorem nearN_some (n k : Int) (s : ByteArray) (h : rowB n ≠ []) (h1 : 0 ≤ k) (h2 : k ≤ 3) : nearN n s k = nearL (rowB n) s k.toNat := by
  unfold nearN
  rw [if_pos]
  refine ⟨?_, h1, h2⟩
  unfold rowB symsN at h
  split at h
  · assumption
  · simp at h
theorem tell_len (L : List ByteArray) (m : Nat) (hL : ∀ s ∈ L, s.size ≤ m) (w : List UInt8) (k : Int) : (tellL L w k).length ≤ L.length := by
  have h1 : ((tellL L w k).map (·.1)).Nodup := List.Pairwise.map _ (fun a b hab e => by have e2 : a.1 = b.1 := e; rw [e2] at hab; exact List.lt_irrefl _ hab) (tell_sorted L m hL w k)
  have h2 := List.Nodup.length_le_of_subset h1 (l₂ := List.range L.length) (fun n hn => by
    rw [List.mem_map] at hn
    obtain ⟨⟨n, d⟩, hx, rfl⟩ := hn
    exact List.mem_range.2 (firstK_some ((mem_walk L m hL w k n d).1 hx).1).1)
  simpa using h2
theorem own_other {Y : World} {B : Nat} {e : TypeId} {size n : Nat} {v : Value} {xs : List Value} (h : Y.ownsRow B e size v n xs) {k : Nat} {cs : Array Value} {t : TypeId} {fr : Nat × Nat} (hk : Y.heap[k]? = some (.cells cs t fr)) (ht : t ≠ e) : some k ≠ v.ownBlock := by
  rcases h.2 with ⟨rfl, _⟩ | ⟨g, cap, cur, rfl, _, hgb, _⟩
  · simp [Value.ownBlock]
  · intro e'
    obtain rfl : k = g := by simpa [Value.ownBlock] using e'
    rw [hgb] at hk
    cases hk
    exact ht rfl
theorem cell_grown {Y Z : World} {row : Option Nat} {k j : Nat} {v : Value} (h : Y.cell? ⟨k, j, none⟩ = some v) (hg : Y.grownBy Z row) (hne : some k ≠ row) : Z.cell? ⟨k, j, none⟩ = some v :=
  (World.cell?_of_block (w := Y) (a := ⟨k, j, none⟩) (hg.block k (World.block_lt_of_cell? Y ⟨k, j, none⟩ h) hne)).trans h
/-- What a round's append and store do. -/
theorem near_round {w X Y w2 : World} {R : List ByteArray} {gR len rc rb ob : Nat} {v v' : Value} {pre : List (Nat × Nat)} {x : Nat × Nat} {lit : Obj} (hv : Boxed X ob 26 v) (hown : OwnNe X w.heap.size v (pre.map (nearOf R)))
    (hrb : X.heap[rb]? = some (.cells #[.slice (some ⟨gR, 0, none⟩) len rc] 29 (0, 0))) (hrow : OwnS X w.heap.size (.slice (some ⟨gR, 0, none⟩) len rc) R) (hbw : Below w.heap.size w X) (hY : (X.alloc lit).drew = Y)
    (hown' : w2.ownsRow w.heap.size 42 3 v' ((pre.map (nearOf R)).length + 1) ((pre.map (nearOf R)).flatMap nearV ++ [.string (atR R x.1), .int .i64 (x.2 : Int), .int .i64 (x.1 : Int)])) (hgrow : Y.grownBy w2 v.ownBlock) (hob : w.heap.size ≤ ob) :
    w2.cell? ⟨ob, 0, none⟩ = some v ∧ w2.frozen? ⟨ob, 0, none⟩ = false ∧ w2.cell? ⟨rb, 0, none⟩ = some (.slice (some ⟨gR, 0, none⟩) len rc) ∧ some gR ≠ v.ownBlock ∧ NearI w R (.slice (some ⟨gR, 0, none⟩) len rc) rb ob (pre ++ [x]) (w2.setCell ⟨ob, 0, none⟩ v') ∧ KeepsOthers X (w2.setCell ⟨ob, 0, none⟩ v') ∧
      ∀ S : Nat → Obj → Prop, (∀ k cs fr, ¬ S k (.cells cs 42 fr)) → (∀ k cs fr, ¬ S k (.cells cs 26 fr)) → KeepP S X (w2.setCell ⟨ob, 0, none⟩ v') := by
  have hwX := hbw.size
  have hXd : Boxed X.drew ob 26 v := hv
  have hg2 : (X.drew.alloc lit).grownBy w2 v.ownBlock := by
    have e : X.drew.alloc lit = (X.alloc lit).drew := rfl
    rw [e, hY]; exact hgrow
  obtain ⟨a1, a2, a3, a4, a5⟩ := Boxed.appended hXd (by decide) (show X.drew.ownsRow _ _ _ _ _ _ from hown) hwX hob hown' hg2
  have hbY : Below X.heap.size X Y := by rw [← hY]; exact ((Below.refl _ _).alloc (Nat.le_refl _) _).drew
  have hobl : ob < X.heap.size := hv.lt
  have hownY : OwnNe Y w.heap.size v (pre.map (nearOf R)) := ownBelow hown hbY
  have hgR : ∃ cur fr, X.heap[gR]? = some (.cells cur 9 fr) := by
    rcases hrow.2 with ⟨e, _⟩ | ⟨g, cap, cur, e, _, hgb, _⟩
    · cases e
    · cases e; exact ⟨cur, _, hgb⟩
  obtain ⟨curR, frR, hgR⟩ := hgR
  have n1 := own_other hownY (blkUnder hrb hbY) (by decide)
  have n2 := own_other hownY (blkUnder hgR hbY) (by decide)
  have hrb2 : w2.heap[rb]? = some (.cells #[.slice (some ⟨gR, 0, none⟩) len rc] 29 (0, 0)) := (hgrow.block _ (Array.getElem?_eq_some_iff.1 (blkUnder hrb hbY)).1 n1).trans (blkUnder hrb hbY)
  have hne1 : rb ≠ ob := fun e => by rw [e, show X.heap[ob]? = _ from hv] at hrb; simp only [Option.some.injEq, Obj.cells.injEq] at hrb; exact absurd hrb.2.1 (by decide)
  have hne2 : gR ≠ ob := fun e => by rw [e, show X.heap[ob]? = _ from hv] at hgR; simp only [Option.some.injEq, Obj.cells.injEq] at hgR; exact absurd hgR.2.1 (by decide)
  refine ⟨a1.cell, a1.frozen, cellB hrb2 (j := 0) rfl, n2, ⟨⟨v', a2, ?_⟩, (Below.heap_setCell w2 ⟨ob, 0, none⟩ v' rb hne1).trans hrb2, ?_, ?_⟩, ?_, fun S h1 h2 => ?_⟩
  · unfold OwnNe
    rw [List.map_append, List.length_append, List.flatMap_append]
    exact a3
  · have h3 : OwnS Y w.heap.size (.slice (some ⟨gR, 0, none⟩) len rc) R := ownBelow hrow hbY
    refine ⟨h3.1, ?_⟩
    rcases h3.2 with ⟨e, _⟩ | ⟨g, cap, cur, e, hB, hgb, r⟩
    · cases e
    · simp only [Value.slice.injEq, Option.some.injEq, Addr.mk.injEq, and_true] at e
      obtain ⟨rfl, rfl, rfl⟩ := e
      exact .inr ⟨_, _, cur, rfl, hB, ((Below.heap_setCell w2 ⟨ob, 0, none⟩ v' _ hne2).trans (hgrow.block _ (Array.getElem?_eq_some_iff.1 hgb).1 n2)).trans hgb, r⟩
  · exact hbw.trans ⟨a5.os, a5.tape, a5.output, a5.size, a5.block⟩
  · exact ⟨a4.size, a4.same⟩
  · refine ((KeepP.below hbY).trans (KeepP.grown hgrow fun r er o ho hs => ?_)).trans ⟨by simp [World.setCell], fun k o hk hs => ?_, rfl, rfl, rfl⟩
    · rcases hownY.2 with ⟨e, _⟩ | ⟨g, cap, cur, e, _, hgb, _⟩
      · rw [e] at er; cases er
      · rw [e] at er
        simp only [Value.ownBlock, Option.some.injEq] at er
        subst er
        rw [hgb] at ho
        cases ho
        exact h1 _ _ _ hs
    · refine (Below.heap_setCell w2 ⟨ob, 0, none⟩ v' k (fun e => ?_)).trans hk
      simp only at e
      rw [e, show w2.heap[ob]? = _ from a1] at hk
      cases hk
      exact h2 _ _ _ hs
theorem ownS_cell {w : World} {B g len c : Nat} {R : List ByteArray} (h : OwnS w B (.slice (some ⟨g, 0, none⟩) len c) R) {i : Nat} (hi : i < R.length) : w.cell? ⟨g, i, none⟩ = some (.string (atR R i)) := by
  obtain ⟨a', c', e, h⟩ := h.sl
  simp only [Value.slice.injEq] at e
  obtain ⟨rfl, -, rfl⟩ := e
  rcases h with h | ⟨g2, e, h⟩
  · rw [h] at hi; simp at hi
  · simp only [Option.some.injEq, Addr.mk.injEq, and_true] at e
    rw [e]
    exact h i hi
theorem not_safeN (B : Nat) (mbs : List Nat) (tb : Nat) {t : TypeId} (h1 : t ∉ walkTs) (h2 : t ∉ trieTs) (h3 : t ∉ [49, 9, 3]) : ∀ k cs fr, ¬ safeN B mbs tb k (.cells cs t fr) := by
  rintro k cs fr (h | ⟨_, _, _, e, h⟩ | ⟨_, _, _, e⟩ | ⟨_, _, _, _, _, e, h⟩)
  · exact not_ownP_cells h1 h
  · cases e; exact h2 h
  · cases e
  · cases e; exact h3 h
theorem near_nil (w : World) (B : Nat) : OwnNe w B (.slice none 0 0) [] := World.ownsRow_nil _ _ _ _
set_option maxRecDepth 100000 in
set_option maxHeartbeats 4000000 in
theorem near_in (n k : Int) (s : ByteArray) (hs : s.size ≤ 1000) (w : World) (hL : Laid w) : CallsIn Fence.wide 20 Tryd.prog 12 #[.int .i64 n, .string s, .int .i64 k] w fun e w' => ∃ v, e = .returned v ∧ OwnNe w' w.heap.size v (nearN n s k) ∧ Below w.heap.size w w' := by
  obtain ⟨i0, hi, hz0, hz1, hz2⟩ := info_parts info_near
  have HL := Lib.hid hL
  have HR := Lib.hid (row_any n w hL)
  clear hL
  refine callsIn_of_wp_marks Tryd.func12 rfl trivial ?_ rfl
  simp only [Tryd.ntmps12, List.size_toArray, List.length_cons, List.length_nil, Nat.reduceAdd, Nat.reduceSub, Array.replicate_succ, Array.replicate_zero, List.push_toArray, List.append_toArray, List.nil_append, List.cons_append]
  gi_wp2
  refine ⟨trivial, ?_⟩
  refine (callsIn_wide.2 HR.out).mono ?_
  rintro e w1 ⟨vr, rfl, hr, hb1⟩
  obtain ⟨ra, rc, rfl, -⟩ := hr.sl
  have HR1 := Lib.hid hr
  have HB1 := Lib.hid hb1
  clear hr hb1
  have HNB : Hid (Below w.heap.size w (w1.alloc (.cells #[.slice ra (rowB n).length rc] 29))) := HB1.out.alloc HB1.out.size _
  by_cases h0 : rowB n = []
  · have hz : (((rowB n).length : Int) == 0) = true := by rw [h0]; rfl
    have HN := Lib.hid (nearN_none n k s (.inl h0))
    clear h0
    gi_wp2
    refine ⟨_, results_tmp rfl _ _ _, _, rfl, by rw [HN.out]; exact near_nil _ _, HNB.out⟩
  have hz : (((rowB n).length : Int) == 0) = false := by
    rw [beq_eq_false_iff_ne]
    have := List.length_pos_iff.2 h0
    omega
  by_cases h1 : k < 0
  · have HN := Lib.hid (nearN_none n k s (.inr (.inl h1)))
    have HN0 := Lib.hid h0
    clear h0
    gi_wp2
    refine ⟨_, results_tmp rfl _ _ _, _, rfl, by rw [HN.out]; exact near_nil _ _, HNB.out⟩
  by_cases h2 : 3 < k
  · have HN := Lib.hid (nearN_none n k s (.inr (.inr h2)))
    have HN0 := Lib.hid h0
    clear h0
    gi_wp2
    refine ⟨_, results_tmp rfl _ _ _, _, rfl, by rw [HN.out]; exact near_nil _ _, HNB.out⟩
  have h3 : 0 ≤ k := by omega
  have h4 : k ≤ 3 := by omega
  have HN := Lib.hid (nearN_some n k s h0 h3 h4)
  have HN0 := Lib.hid h0
  clear h0
  have d1 : decide (k < 0) = false := decide_eq_false (by omega)
  have d2 : decide (3 < k) = false := decide_eq_false (by omega)
  gi_wp2
  have hn3 := two_new w1 #[.slice ra (rowB n).length rc] #[.slice none 0 0] 29 26
  generalize hV3 : (w1.alloc (.cells #[.slice ra (rowB n).length rc] 29)).alloc (.cells #[.slice none 0 0] 26) = V3 at hn3
  have hb3 : Below w1.heap.size w1 V3 := by rw [← hV3]; exact ((Below.refl _ _).alloc (Nat.le_refl _) _).alloc (by simp) _
  have hV3s : V3.heap.size = w1.heap.size + 2 := by rw [← hV3]; simp
  have hB3 : Below w.heap.size w V3 := HB1.out.trans (hb3.mono HB1.out.size)
  clear hV3
  refine ⟨trivial, ?_⟩
  refine (callsIn_wide.2 (legalTrie_any n V3 (laid_under HL.out hB3) HN0.out)).mono ?_
  rintro e V4 ⟨tp, mbs, rfl, htp, hT, hb4, hmb⟩
  have HT := Lib.hid hT
  have HB4 := Lib.hid hb4
  have HMB := Lib.hid hmb
  have hV4s : V3.heap.size ≤ V4.heap.size := hb4.size
  clear hT hmb
  gi_wp2
  refine ⟨trivial, ?_⟩
  refine (callsIn_wide.2 (nearWalk_any (some ⟨tp, 0, none⟩) s k V4)).mono ?_
  rintro e w' ⟨rfl, rfl⟩
  gi_wp2
  have hn5 := three_new V4 #[.pointer (some ⟨tp, 0, none⟩)] #[.string s] #[.int .i64 k] 49 9 3
  generalize hV5 : ((V4.alloc (.cells #[.pointer (some ⟨tp, 0, none⟩)] 49)).alloc (.cells #[.string s] 9)).alloc (.cells #[.int .i64 k] 3) = V5 at hn5
  have hb5 : Below V4.heap.size V4 V5 := by rw [← hV5]; exact (((Below.refl _ _).alloc (Nat.le_refl _) _).alloc (by simp) _).alloc (by simp; omega) _
  have hV5s : V5.heap.size = V4.heap.size + 3 := by rw [← hV5]; simp
  clear hV5
  have hw13 : w.heap.size ≤ w1.heap.size := HB1.out.size
  have hB4 : Below w.heap.size w V4 := hB3.trans (hb4.mono hB3.size)
  have hB5 : Below w.heap.size w V5 := hB4.trans (hb5.mono hB4.size)
  have hb35 : Below V3.heap.size V3 V5 := hb4.trans (hb5.mono hb4.size)
  have HT5 : Hid (TrieAt V5 tp tp mbs (buildT (rowB n))) := HT.out.below hb5
  have HI0 : Hid (NearI w (rowB n) (.slice ra (rowB n).length rc) w1.heap.size (w1.heap.size + 1) [] V5) := by
    refine ⟨⟨.slice none 0 0, ?_, near_nil _ _⟩, ?_, ?_, hB5⟩
    · exact (hb35.block _ (by omega)).trans hn3.2
    · exact (hb35.block _ (by omega)).trans hn3.1
    · exact ownBelow (ownBelow HR1.out hb3) hb35
  have hmlt : ∀ m ∈ mbs, m < V4.heap.size := fun m hm => by
    obtain ⟨i, hi, rfl⟩ := List.getElem_of_mem hm
    have hz : i < (mbs.zip (buildT (rowB n))).length := by rw [List.length_zip, HT.out.len, Nat.min_self, ← HT.out.len]; exact hi
    have := (HT.out.kids _ (List.getElem_mem hz)).lt
    rw [List.getElem_zip] at this
    exact this
  have HML := Lib.hid hmlt
  have hwf := (wf_build (rowB n) 16 (rowB_short n) (rowB n).length).1
  have hRl := rowB_len n
  clear hn3 hmlt hB3 hB4 hb35 hb3 hb4 hb5
  refine range_p (F := Fence.wide) rfl (by omega) (gf := 35) (lb := #[.pointer (some ⟨V4.heap.size, 0, none⟩), .pointer (some ⟨V4.heap.size + 1, 0, none⟩), .pointer (some ⟨V4.heap.size + 1 + 1, 0, none⟩)]) rfl trivial (enters_of Tryd.func35 (by kernel_rfl) rfl)
    (walk_seq (20 - 1) (safeN (V5.heap.size + 2) mbs V4.heap.size) tp tp V4.heap.size (V4.heap.size + 1) (V4.heap.size + 1 + 1) mbs (buildT (rowB n)) s k V5 (safeN_ok _ _ _) ⟨.inr (.inr (.inr ⟨by omega, by omega, _, _, _, rfl, by decide⟩)), .inr (.inr (.inr ⟨by omega, by omega, _, _, _, rfl, by decide⟩)), .inr (.inr (.inr ⟨by omega, by omega, _, _, _, rfl, by decide⟩))⟩ hwf (by omega) HT5.out hn5.1 hn5.2.1 hn5.2.2)
    (fun h k => h.trans k)
    (fun X o o' h hc => KeepP.putObj o' h (by
      rintro (hn | ⟨cs, t, fr, rfl, -⟩ | ⟨hn, -⟩ | hn)
      · have := hn.1; omega
      · cases hc
      · have := HML.out _ hn; omega
      · have := hn.2.1; omega))
    (Below.refl _ _) (fun _ => rfl)
    (NearI w (rowB n) (.slice ra (rowB n).length rc) w1.heap.size (w1.heap.size + 1)) (fun _ _ _ => False) (nearI_stab w _ _ _ _ _ hB5.size) (fun c s A C hs hk => hs) HI0.out
    (fun x a' X => a' = { tmps := #[.int .i64 n, .string s, .int .i64 k, undef, undef, undef, .slice none 0 0, .pointer (some ⟨w1.heap.size, 0, none⟩), .pointer (some ⟨w1.heap.size + 1, 0, none⟩), .int .i64 (x.1 : Int), .int .i64 (x.2 : Int), .int .i64 n, .slice ra (rowB n).length rc, .slice ra (rowB n).length rc, .int .i64 ((rowB n).length : Int), .bool false, .bool false, .int .i64 k, .bool false, .bool false, .bool false, .int .i64 k, .bool false, .bool false, .int .i64 n, .pointer (some ⟨tp, 0, none⟩), .string s, .int .i64 k, .func (.func 35) #[] #[.pointer (some ⟨V4.heap.size, 0, none⟩), .pointer (some ⟨V4.heap.size + 1, 0, none⟩), .pointer (some ⟨V4.heap.size + 1 + 1, 0, none⟩)], .int .i64 (x.1 : Int), .int .i64 (x.2 : Int), undef, undef, undef, undef, undef, undef, undef, undef, undef, undef, undef, undef, undef], defers := [] })
    (fun x a' s A C row h hg hr => h) ?assign ?body ?done ?stop
  case assign =>
    rintro l2 pre x Y K hI hK
    simp only [encW] at hK ⊢
    gi_wp2
    exact hK _ _ (KeepsFrom.refl _ _) (KeepP.refl _ _) hI rfl
  case body =>
    rintro l2 pre x a' X hI rfl ⟨more, hok⟩
    have hmem : (x.1, x.2) ∈ tellL (rowB n) s.toList k := by show _ ∈ walkL _ _ _ _ _ _; rw [hok]; simp
    have hx := (mem_walk (rowB n) 16 (rowB_short n) s.toList k x.1 x.2).1 hmem
    have hxl : x.1 < (rowB n).length := (firstK_some hx.1).1
    have hlen : pre.length + 1 ≤ (rowB n).length := by
      have h1 := tell_len (rowB n) 16 (rowB_short n) s.toList k
      unfold tellL at h1
      rw [hok, List.length_append, List.length_cons] at h1
      omega
    clear hmem hx hok
    obtain ⟨⟨v, hv, hown⟩, hrb, hrow, hbw⟩ := hI
    obtain ⟨gR, rfl, hgc⟩ : ∃ g, ra = some ⟨g, 0, none⟩ ∧ X.cell? ⟨g, x.1, none⟩ = some (.string (atR (rowB n) x.1)) := by
      obtain ⟨a', c', e, h⟩ := hrow.sl
      simp only [Value.slice.injEq] at e
      obtain ⟨rfl, -, rfl⟩ := e
      rcases h with h | ⟨g, rfl, h⟩
      · rw [h] at hxl; simp at hxl
      · exact ⟨g, rfl, h x.1 hxl⟩
    have hvc := hv.cell
    have hvf := hv.frozen
    have hrc := cellB hrb (j := 0) rfl
    have HIX := Lib.hid (And.intro hv (And.intro hown (And.intro hrb (And.intro hrow hbw))))
    have hxz : (x.1 : Int) < ((rowB n).length : Int) := by omega
    clear hv hown hrb hrow hbw
    gi_wp2
    refine held_round (S := fun W' => W'.cell? ⟨w1.heap.size, 0, none⟩ = some (.slice (some ⟨gR, 0, none⟩) (rowB n).length rc) ∧ W'.cell? ⟨gR, x.1, none⟩ = some (.string (atR (rowB n) x.1))) (by kernel_rfl) (by kernel_rfl) ?lo ?go
    case lo => rintro ⟨a, w', h⟩; exact h
    case go =>
      have hS : X.drew.cell? ⟨w1.heap.size, 0, none⟩ = some (.slice (some ⟨gR, 0, none⟩) (rowB n).length rc) ∧ X.drew.cell? ⟨gR, x.1, none⟩ = some (.string (atR (rowB n) x.1)) := ⟨hrc, hgc⟩
      show wpAnyH Tryd.prog .any _ _ _ 11 #[false, false, false, false, false, false, false, false, false, false, false] _ X.drew
      clear hrc hgc
      refine take_plain 1 32 (.slice (some ⟨gR, 0, none⟩) (rowB n).length rc) rfl rfl (by kernel_rfl) (by kernel_rfl) (by kernel_rfl) (fun _ _ _ h => h) (.inl ⟨rfl, fun W' hW => ?_⟩) hS ?_
      · obtain ⟨h2, h3⟩ := hW
        clear hS
        go_simp
      simp only [List.set_cons_zero, List.set_cons_succ]
      refine take_plain 2 33 (.int .i64 (x.1 : Int)) rfl rfl (by kernel_rfl) (by kernel_rfl) (by kernel_rfl) (fun _ _ _ h => h) (.inl ⟨rfl, fun W' hW => ?_⟩) hS ?_
      · obtain ⟨h2, h3⟩ := hW
        clear hS
        go_simp
      simp only [List.set_cons_zero, List.set_cons_succ]
      refine take_plain 3 34 (.pointer (some ⟨gR, x.1, none⟩)) rfl rfl (by kernel_rfl) (by kernel_rfl) (by kernel_rfl) (fun _ _ _ h => h) (.inl ⟨rfl, fun W' hW => ?_⟩) hS ?_
      · obtain ⟨h2, h3⟩ := hW
        clear hS
        go_simp
      simp only [List.set_cons_zero, List.set_cons_succ]
      refine take_plain 4 35 (.string (atR (rowB n) x.1)) rfl rfl (by kernel_rfl) (by kernel_rfl) (by kernel_rfl) (fun _ _ _ h => h) (.inl ⟨rfl, fun W' hW => ?_⟩) hS ?_
      · obtain ⟨h2, h3⟩ := hW
        clear hS
        go_simp
      simp only [List.set_cons_zero, List.set_cons_succ]
      refine take_plain 5 36 (.int .i64 (x.2 : Int)) rfl rfl (by kernel_rfl) (by kernel_rfl) (by kernel_rfl) (fun _ _ _ h => h) (.inl ⟨rfl, fun W' hW => ?_⟩) hS ?_
      · obtain ⟨h2, h3⟩ := hW
        clear hS
        go_simp
      simp only [List.set_cons_zero, List.set_cons_succ]
      refine take_plain 6 37 (.int .i64 (x.1 : Int)) rfl rfl (by kernel_rfl) (by kernel_rfl) (by kernel_rfl) (fun _ _ _ h => h) (.inl ⟨rfl, fun W' hW => ?_⟩) hS ?_
      · obtain ⟨h2, h3⟩ := hW
        clear hS
        go_simp
      simp only [List.set_cons_zero, List.set_cons_succ]
      refine take_plain 7 38 (.agg #[.string (atR (rowB n) x.1), .int .i64 (x.2 : Int), .int .i64 (x.1 : Int)]) rfl rfl (by kernel_rfl) (by kernel_rfl) (by kernel_rfl) (fun _ _ _ h => h) (.inl ⟨rfl, fun W' hW => ?_⟩) hS ?_
      · obtain ⟨h2, h3⟩ := hW
        clear hS
        go_simp
      simp only [List.set_cons_zero, List.set_cons_succ]
      obtain ⟨Y, hY⟩ : ∃ Y, (X.alloc (.cells #[.string (atR (rowB n) x.1), .int .i64 (x.2 : Int), .int .i64 (x.1 : Int)] 42)).drew = Y := ⟨_, rfl⟩
      have hXY : Below X.heap.size X Y := by rw [← hY]; exact ((Below.refl _ _).alloc (Nat.le_refl _) _).drew
      have hSY : Y.cell? ⟨w1.heap.size, 0, none⟩ = some (.slice (some ⟨gR, 0, none⟩) (rowB n).length rc) ∧ Y.cell? ⟨gR, x.1, none⟩ = some (.string (atR (rowB n) x.1)) := ⟨cell_under (show X.cell? _ = _ from hS.1) hXY, cell_under (show X.cell? _ = _ from hS.2) hXY⟩
      have hvY := cell_under hvc hXY
      have HXY := Lib.hid hXY
      have HSY := Lib.hid hSY
      have hownY : OwnNe Y w.heap.size v (pre.map (nearOf (rowB n))) := ownBelow HIX.out.2.1 hXY
      have hlit : ∀ j u, [.string (atR (rowB n) x.1), .int .i64 (x.2 : Int), .int .i64 (x.1 : Int)][j]? = some u → Y.cell? ((⟨X.heap.size, 0, none⟩ : Addr).add j) = some u := fun j u hj => by
        rw [addPlain, ← hY]
        rcases j with _ | _ | _ | j
        · cases hj; exact cellNew X _ _ 0 _ rfl
        · cases hj; exact cellNew X _ _ 1 _ rfl
        · cases hj; exact cellNew X _ _ 2 _ rfl
        · simp at hj
      have HLIT := Lib.hid hlit
      have HOY := Lib.hid hownY
      have HY := Lib.hid hY
      have hYs : w.heap.size ≤ Y.heap.size := Nat.le_trans HIX.out.2.2.2.2.size hXY.size
      clear hY hXY hSY hlit hownY
      refine wpAnyH_ready (rs := [0, 8]) (by kernel_rfl) (by simp) (AllReadyH.cons rfl (fun K' hK => ?_) (AllReadyH.cons rfl (fun K' hK => ?_) AllReadyH.nil))
      rotate_left
      · rw [if_pos (by rfl)]
        go_simp
        rw [HY.out]
        refine hK.out _ _ HSY.out (fun _ => ?_)
        clear hK
        simp only [Act.put, List.setIfInBounds_toArray, List.set_cons_zero, List.set_cons_succ]
        refine wpAnyH_ready (rs := [0]) (by kernel_rfl) (by simp) (AllReadyH.cons rfl (fun K' hK => ?_) AllReadyH.nil)
        rw [if_pos (by rfl)]
        go_simp
        refine hK.out _ _ HSY.out (fun _ => ?_)
        clear hK
        simp only [Act.put, List.setIfInBounds_toArray, List.set_cons_zero, List.set_cons_succ]
        refine wpAnyH_ready (rs := [9]) (by kernel_rfl) (by simp) (AllReadyH.cons rfl (fun K' hK => ?_) AllReadyH.nil)
        rw [if_pos (by rfl)]
        refine wp_append_own Y (.tmp 31) (.tmp 39) 26 rfl w.heap.size 42 i0 _ 3 32 Tryd.underlying26 hi hz0 hz1 hz2 rfl (by decide) v _ _ rfl HOY.out ⟨X.heap.size, 0, none⟩ 1 1 [.string (atR (rowB n) x.1), .int .i64 (x.2 : Int), .int .i64 (x.1 : Int)] rfl rfl HLIT.out (fun u hu => by
          simp only [List.mem_cons, List.not_mem_nil, or_false] at hu
          rcases hu with rfl | rfl | rfl <;> rfl) (by rw [List.length_map]; unfold Go.maxLen; omega) (by rw [List.length_map]; omega) hYs ?_
        intro v' w2 hown' hgrow hnn
        obtain ⟨g', cap', rfl⟩ := ownsRow_succ hown'
        have hend := near_round HIX.out.1 HIX.out.2.1 HIX.out.2.2.1 HIX.out.2.2.2.1 HIX.out.2.2.2.2 HY.out hown' hgrow (by omega)
        rw [List.length_map] at hend
        have HE := Lib.hid hend
        have q1 := hend.1
        have q2 := hend.2.1
        refine hK.out _ _ ⟨hend.2.2.1, cell_grown HSY.out.2 hgrow hend.2.2.2.1⟩ (fun _ => ?_)
        clear hK hend
        simp only [Act.put, List.setIfInBounds_toArray, List.set_cons_zero, List.set_cons_succ]
        refine wpAnyH_ready (rs := [10]) (by kernel_rfl) (by simp) (AllReadyH.cons rfl (fun K' hK => ?_) AllReadyH.nil)
        rw [if_pos (by rfl)]
        go_simp
        refine hK.out _ _ ⟨cellB HE.out.2.2.2.2.1.rbox (j := 0) rfl, ownS_cell HE.out.2.2.2.2.1.row hxl⟩ (fun _ => ?_)
        clear hK
        simp only [Act.put, List.setIfInBounds_toArray, List.set_cons_zero, List.set_cons_succ]
        refine wpAnyH_done (by kernel_rfl) ?_ _
        exact ⟨HE.out.2.2.2.2.2.1.from _, HE.out.2.2.2.2.2.2 _ (not_safeN _ _ _ (by decide) (by decide) (by decide)) (not_safeN _ _ _ (by decide) (by decide) (by decide)), HE.out.2.2.2.2.1⟩
      · rw [if_pos (by rfl)]
        go_simp
        refine hK.out _ _ hS (fun _ => ?_)
        clear hK
        simp only [Act.put, List.setIfInBounds_toArray, List.set_cons_zero, List.set_cons_succ]
        refine wpAnyH_ready (rs := [8]) (by kernel_rfl) (by simp) (AllReadyH.cons rfl (fun K' hK => ?_) AllReadyH.nil)
        rw [if_pos (by rfl)]
        go_simp
        rw [HY.out]
        refine hK.out _ _ HSY.out (fun _ => ?_)
        clear hK
        simp only [Act.put, List.setIfInBounds_toArray, List.set_cons_zero, List.set_cons_succ]
        refine wpAnyH_ready (rs := [9]) (by kernel_rfl) (by simp) (AllReadyH.cons rfl (fun K' hK => ?_) AllReadyH.nil)
        rw [if_pos (by rfl)]
        refine wp_append_own Y (.tmp 31) (.tmp 39) 26 rfl w.heap.size 42 i0 _ 3 32 Tryd.underlying26 hi hz0 hz1 hz2 rfl (by decide) v _ _ rfl HOY.out ⟨X.heap.size, 0, none⟩ 1 1 [.string (atR (rowB n) x.1), .int .i64 (x.2 : Int), .int .i64 (x.1 : Int)] rfl rfl HLIT.out (fun u hu => by
          simp only [List.mem_cons, List.not_mem_nil, or_false] at hu
          rcases hu with rfl | rfl | rfl <;> rfl) (by rw [List.length_map]; unfold Go.maxLen; omega) (by rw [List.length_map]; omega) hYs ?_
        intro v' w2 hown' hgrow hnn
        obtain ⟨g', cap', rfl⟩ := ownsRow_succ hown'
        have hend := near_round HIX.out.1 HIX.out.2.1 HIX.out.2.2.1 HIX.out.2.2.2.1 HIX.out.2.2.2.2 HY.out hown' hgrow (by omega)
        rw [List.length_map] at hend
        have HE := Lib.hid hend
        have q1 := hend.1
        have q2 := hend.2.1
        refine hK.out _ _ ⟨hend.2.2.1, cell_grown HSY.out.2 hgrow hend.2.2.2.1⟩ (fun _ => ?_)
        clear hK hend
        simp only [Act.put, List.setIfInBounds_toArray, List.set_cons_zero, List.set_cons_succ]
        refine wpAnyH_ready (rs := [10]) (by kernel_rfl) (by simp) (AllReadyH.cons rfl (fun K' hK => ?_) AllReadyH.nil)
        rw [if_pos (by rfl)]
        go_simp
        refine hK.out _ _ ⟨cellB HE.out.2.2.2.2.1.rbox (j := 0) rfl, ownS_cell HE.out.2.2.2.2.1.row hxl⟩ (fun _ => ?_)
        clear hK
        simp only [Act.put, List.setIfInBounds_toArray, List.set_cons_zero, List.set_cons_succ]
        refine wpAnyH_done (by kernel_rfl) ?_ _
        exact ⟨HE.out.2.2.2.2.2.1.from _, HE.out.2.2.2.2.2.2 _ (not_safeN _ _ _ (by decide) (by decide) (by decide)) (not_safeN _ _ _ (by decide) (by decide) (by decide)), HE.out.2.2.2.2.1⟩
  case done =>
    rintro D xs Y hD rfl ⟨⟨v, hv, hown⟩, hrb, hrow, hbw⟩ hK
    have hvc := hv.cell
    have HO := Lib.hid hown
    have HBW := Lib.hid hbw
    have HKD := Lib.hid hK
    have HVX := Lib.hid hv
    have HRN := Lib.hid (near_plain (rowB_nodup n) 16 (rowB_short n) s k.toNat)
    have hYs : w.heap.size ≤ Y.heap.size := hbw.size
    have hll : (walkL (buildT (rowB n)) s.toList k (buildT (rowB n)).length 0 []).length ≤ (rowB n).length := tell_len (rowB n) 16 (rowB_short n) s.toList k
    have HSR := Lib.hid (sortN_any w.heap.size v _ Y hown hYs (by rw [List.length_map]; omega))
    clear hv hown hbw hK
    gi_wp2
    refine ⟨trivial, ?_⟩
    refine (callsIn_wide.2 HSR.out).mono ?_
    rintro e Z ⟨rfl, l', hol, hpl, hsl, hgr⟩
    have HZ := Lib.hid (And.intro hol (And.intro hpl hsl))
    have HGR := Lib.hid hgr
    have hne := own_other HO.out (show Y.heap[w1.heap.size + 1]? = some (.cells #[v] 26 (0, 0)) from HVX.out) (by decide)
    have hvz := cell_grown hvc hgr hne
    clear hol hpl hsl hgr hvc
    gi_wp2
    have hDne : some D ≠ v.ownBlock := by
      rcases HO.out.2 with ⟨e, _⟩ | ⟨g, cap, cur, e, _, hgb, _⟩
      · rw [e]; simp [Value.ownBlock]
      · rw [e]
        intro e'
        have : D = g := by simpa [Value.ownBlock] using e'
        rw [this, show Y.heap[g]? = _ from hgb] at HKD
        exact absurd HKD.out (by simp)
    have hKZ : Z.heap[D]? = some (.deferred (some [])) := (HGR.out.block D (Array.getElem?_eq_some_iff.1 HKD.out).1 hDne).trans HKD.out
    refine ⟨by simp, .inl ⟨_, _, rfl, run_takeDeferred hKZ, ?_⟩⟩
    have hbz : Below w.heap.size w Z := HBW.out.grown HGR.out hYs (fun q hq => (World.ownsRow.lt HO.out q hq).1)
    refine ⟨_, results_tmp rfl _ _ _, v, rfl, ?_, hbz.grown (grownBy_putObj' Z D _) hbz.size (fun q hq => by cases hq; have := hB5.size; omega)⟩
    have hkk : ((k.toNat : Nat) : Int) = k := by omega
    have hfin : l' = nearN n s k := by
      rw [HN.out]
      refine HRN.out l' ?_ HZ.out.2.2
      rw [hkk]
      exact HZ.out.2.1
    rw [← hfin]
    exact ownsRow_putObj HZ.out.1 (.deferred none) hKZ rfl
  case stop => exact fun D c pre Y hD _ h _ => h.elim
theorem near_any (n k : Int) (s : ByteArray) (hs : s.size ≤ 1000) (w : World) (hL : Laid w) : Calls Tryd.prog 12 #[.int .i64 n, .string s, .int .i64 k] w fun e w' => ∃ v, e = .returned v ∧ OwnNe w' w.heap.size v (nearN n s k) ∧ Below w.heap.size w w' := callsIn_wide.1 (near_in n k s hs w hL)
end Go.Proofs.YtaakaajcpjiccaaDoor
