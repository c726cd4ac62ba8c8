/-
  A map of strings to their places, as legal.ranks makes it. legal.ranks, legal.Rank. legal.Rank.
-/
import Derived.Maps.Own
import Derived.Maps.OwnOps
import Derived.Maps.OwnSet
import Derived.Maps.OwnIn
import Derived.StringKeys
import Derived.Maps.OwnRows
import Derived.Test.YtaakaajcpjiccaaDoorNa24
set_option linter.unusedVariables false
set_option linter.unusedSimpArgs false
namespace Go.Proofs.YtaakaajcpjiccaaDoor
open Go.RowKit
open Go.Proofs
open Go.Maps (Keyed)

theorem rank_keyed : Keyed Tryd.prog 9 := Maps.string_keyed Tryd.underlying9
/-- The place of a string in a row. -/
def placeOf (L : List ByteArray) (s : ByteArray) : Option Nat := L.findIdx? fun x => decide (x = s)
theorem placeOf_snoc (L : List ByteArray) (x s : ByteArray) : placeOf (L ++ [x]) s = (placeOf L s).or (if x = s then some L.length else none) := by
  unfold placeOf
  rw [List.findIdx?_append]
  congr 1
  by_cases h : x = s
  · simp [h]
  · simp [h]
/-- What the map holds: each string of L, with its place. -/
def RanksAt (w : World) (b n : Nat) (L : List ByteArray) : Prop :=
  ∃ D : DataW Unit, w.ownsMap Tryd.prog 9 (plainElem Tryd.prog 3) b n D ∧ Maps.size D = L.length ∧
    ∀ s : ByteArray, s.size ≤ maxLen → Maps.has D (.string s.data.toList) = (placeOf L s).isSome ∧ D.atKey (.string s.data.toList) (.lit (.int .i64 0)) = .lit (.int .i64 ((placeOf L s).getD 0 : Nat))
theorem RanksAt.made (w : World) : RanksAt (w.alloc (.map #[] 0)) w.heap.size 0 [] :=
  ⟨.map [], World.ownsMap_made _ _ _ _, rfl, fun s _ => ⟨rfl, rfl⟩⟩
theorem RanksAt.lt {w : World} {b n : Nat} {L : List ByteArray} (h : RanksAt w b n L) : b < w.heap.size := by
  obtain ⟨D, ho, _⟩ := h
  exact ho.lt
theorem RanksAt.mono {w : World} {b n n' : Nat} {L : List ByteArray} (h : RanksAt w b n L) (hn : n ≤ n') : RanksAt w b n' L := by
  obtain ⟨D, ho, r⟩ := h
  exact ⟨D, ho.mono hn, r⟩
theorem RanksAt.heap {w w' : World} {b n : Nat} {L : List ByteArray} (h : RanksAt w b n L) (hh : w'.heap[b]? = w.heap[b]?) : RanksAt w' b n L := by
  obtain ⟨D, ⟨es, clock, hb, r⟩, r2⟩ := h
  exact ⟨D, ⟨es, clock, hh.trans hb, r⟩, r2⟩
theorem rank_put {D : DataW Unit} {w : World} {b n : Nat} {L : List ByteArray} {x : ByteArray} {n' : Nat} {w' : World} (ho : w.ownsMap Tryd.prog 9 (plainElem Tryd.prog 3) b n D) (hs : Maps.size D = L.length)
    (hD : ∀ s : ByteArray, s.size ≤ maxLen → Maps.has D (.string s.data.toList) = (placeOf L s).isSome ∧ D.atKey (.string s.data.toList) (.lit (.int .i64 0)) = .lit (.int .i64 ((placeOf L s).getD 0 : Nat)))
    (hx : x.size ≤ maxLen) (hn : placeOf L x = none) (ho' : w'.ownsMap Tryd.prog 9 (plainElem Tryd.prog 3) b n' (D.put (.string x.data.toList) (.lit (.int .i64 (L.length : Int))))) : RanksAt w' b n' (L ++ [x]) := by
  have hk := rank_keyed.key (WideMaps.keyOf_string_mk Tryd.underlying9 hx)
  refine ⟨_, ho', ?_, fun s hs' => ?_⟩
  · rw [Maps.size_put (ho.tidy rank_keyed), (hD x hx).1, hn]
    simp [hs]
  · by_cases he : (Lit.string s.data.toList) = Lit.string x.data.toList
    · have e2 : s = x := by
        have := rank_keyed.inj (WideMaps.keyOf_string_mk Tryd.underlying9 hs') (by rw [he]; exact WideMaps.keyOf_string_mk Tryd.underlying9 hx)
        simpa using this
      subst e2
      rw [Maps.has_put_same ho.isMap hk, Maps.atKey_put_same ho.isMap hk, placeOf_snoc, hn]
      simp
    · have e2 : ¬ x = s := fun e => he (by rw [e])
      rw [Maps.has_put_other he, Maps.atKey_put_other he, (hD s hs').1, (hD s hs').2, placeOf_snoc, if_neg e2]
      simp
end Go.Proofs.YtaakaajcpjiccaaDoor
namespace Go.Proofs.YtaakaajcpjiccaaDoor
open Go.RowKit
open Go.Proofs
open Go.Shelf
open Go.Maps (Keyed)
attribute [local go_sem] Oper.semAt_some

theorem symsTo_mem {m q k : Nat} {x : SymD} (h : x ∈ symsTo m q k) : x.1 = textF m x.2.1 x.2.2 ∧ toldF m x.2.1 x.2.2 = true ∧ (x.2.1 < q ∨ x.2.1 = q ∧ x.2.2 < k) := by
  unfold symsTo at h
  rw [List.mem_append, List.mem_flatMap] at h
  rcases h with ⟨p, hp, hx⟩ | hx
  · unfold symsQ at hx
    rw [List.mem_map] at hx
    obtain ⟨a, ha, rfl⟩ := hx
    rw [List.mem_filter] at ha
    exact ⟨rfl, ha.2, .inl (by simpa using hp)⟩
  · unfold symsA at hx
    rw [List.mem_map] at hx
    obtain ⟨a, ha, rfl⟩ := hx
    rw [List.mem_filter] at ha
    exact ⟨rfl, ha.2, .inr ⟨rfl, by simpa using ha.1⟩⟩
/-- A symbol's text is none of those ahead of it. -/
theorem symsTo_new {m q k : Nat} (ht : toldF m q k = true) : placeOf ((symsTo m q k).map fun x => (⟨x.1.toArray⟩ : ByteArray)) ⟨(textF m q k).toArray⟩ = none := by
  unfold placeOf
  rw [List.findIdx?_eq_none_iff]
  intro b hb
  rw [List.mem_map] at hb
  obtain ⟨x, hx, rfl⟩ := hb
  obtain ⟨h1, h2, h3⟩ := symsTo_mem hx
  rw [decide_eq_false_iff_not]
  intro e
  have e2 : x.1 = textF m q k := by
    have := congrArg ByteArray.toList e
    rwa [ByteArray.toList_eq, ByteArray.toList_eq] at this
  rw [h1] at e2
  unfold toldF at ht h2
  rw [e2] at h2
  simp only [Bool.and_eq_true, beq_iff_eq] at ht h2
  have h4 := h2.2.symm.trans ht.2
  simp only [Option.some.injEq, Prod.mk.injEq] at h4
  omega
def symB (x : SymD) : ByteArray := ⟨x.1.toArray⟩
theorem clear_none : ClearT [] := ⟨by simp, by simp, by simp, by simp, by simp⟩
def RankI (w : World) (pre : List SymD) (X : World) : Prop := Boxed X (w.heap.size + 1) 63 (.map (some w.heap.size)) ∧ RanksAt X w.heap.size pre.length (pre.map symB) ∧ Below w.heap.size w X
theorem rankI_own (w : World) {B : Nat} (hB : w.heap.size + 2 ≤ B) : OwnFrom B (RankI w) := fun s X Y row hs hg hr => by
  have hne : ∀ k, k < B → some k ≠ row := fun k hk e => by have := (hr k e.symm).1; omega
  exact ⟨hs.1.kept hg (hne _ (by omega)), hs.2.1.heap (hg.block _ hs.2.1.lt (hne _ (by omega))), ownFrom_below (β := Unit) (Nat.le_refl _) (by omega) () X Y row hs.2.2 hg hr⟩
set_option maxRecDepth 100000 in
set_option maxHeartbeats 4000000 in
theorem ranks_in (n : Int) (w : World) (hL : Laid w) : CallsIn Fence.wide 20 Tryd.prog 34 #[.int .i64 n] w fun e w' => e = .returned (.map (some w.heap.size)) ∧ RanksAt w' w.heap.size 2000 (rowB n) ∧ Below w.heap.size w w' := by
  have HL := Lib.hid hL
  have hM := RanksAt.made w
  have hmm := @run_makeMap Tryd.prog
  clear hL
  refine callsIn_of_wp_marks Tryd.func34 rfl trivial ?_ rfl
  simp only [Tryd.ntmps34, List.size_toArray, List.length_cons, List.length_nil, Nat.reduceAdd, Nat.reduceSub, Array.replicate_succ, Array.replicate_zero, List.push_toArray, List.append_toArray, List.nil_append, List.cons_append]
  gi_wp2
  refine ⟨trivial, ?_⟩
  refine (all_in Fence.wide (20 - 1) trivial rfl n _).mono ?_
  rintro e w' ⟨rfl, rfl⟩
  gi_wp2
  clear hmm
  obtain ⟨V, hV⟩ : ∃ V, ((w.alloc (.map #[] 0)).alloc (.cells #[.map (some w.heap.size)] 63)).alloc (.cells #[.int .i64 n] 3) = V := ⟨_, rfl⟩
  have hWV : Below w.heap.size w V := by rw [← hV]; exact (((Below.refl _ _).alloc (Nat.le_refl _) _).alloc (by simp) _).alloc (by simp; omega) _
  have hBV : Boxed V (w.heap.size + 1) 63 (.map (some w.heap.size)) := by
    have h := Boxed.new (w.alloc (.map #[] 0)) 63 (.map (some w.heap.size))
    rw [World.size_alloc] at h
    rw [← hV]; exact h.alloc _
  have hRV : RanksAt V w.heap.size 0 [] := by
    rw [← hV]
    refine (hM.heap (heap_alloc_old _ _ (by simp))).heap (heap_alloc_old _ _ (by simp; omega))
  have hNV : V.cell? ⟨w.heap.size + 2, 0, none⟩ = some (.int .i64 n) := by rw [← hV]; exact cellNew3 (by simp) rfl
  have hVs : V.heap.size = w.heap.size + 3 := by rw [← hV]; simp
  rw [hV]
  clear hV hM
  refine range_ok (F := Fence.wide) rfl (by omega) (gf := 43) (lb := #[.pointer (some ⟨w.heap.size + 2, 0, none⟩)]) rfl trivial (enters_of Tryd.func43 (by kernel_rfl) rfl)
    (all_seq (20 - 1) (by omega) (w.heap.size + 2) n [] clear_none V (laid_under HL.out hWV) hNV)
    (fun h k => ⟨h.1.trans k.1, h.2.trans k.2⟩)
    (fun X o o' h hc => ⟨KeepT.putObj o' h hc, KeepsFrom.of_grownBy (grownBy_putObj' X _ o') (fun j e => by cases e; omega)⟩)
    (Below.refl _ _) (fun _ => rfl)
    (RankI w) (fun _ _ _ => False) (rankI_own w (by omega)) (fun c s A C row hs hg hr => hs)
    ⟨hBV, hRV, hWV⟩
    (fun x a' X => a' = { tmps := #[.int .i64 n, undef, .map none, .pointer (some ⟨w.heap.size + 1, 0, none⟩), symV x, .map (some w.heap.size), .int .i64 n, .func (.func 43) #[] #[.pointer (some ⟨w.heap.size + 2, 0, none⟩)], symV x, .agg #[.int .i64 (x.2.2 : Int), .int .i64 ((x.2.1 : Int) - 1)], undef, undef, undef, undef, undef], defers := [] })
    (fun x a' s A C row h hg hr => h) ?assign ?body ?done ?stop
  case assign =>
    rintro l2 pre x Y K hI hK
    simp only [encY] at hK ⊢
    gi_wp2
    exact hK _ _ (KeepsFrom.refl _ _) ⟨KeepT.refl _ _, KeepsFrom.refl _ _⟩ hI rfl
  case body =>
    rintro l2 pre x a' X ⟨hv, hR, hbw⟩ rfl ⟨hn1, hn5, q, k, hq, hk, rfl, ht, rfl⟩
    have hle := symsTo_le (n.toNat - 1) q k (by omega) (by omega)
    have hnew := symsTo_new (m := n.toNat - 1) ht
    have htl : ((⟨(textF (n.toNat - 1) q k).toArray⟩ : ByteArray)).size ≤ maxLen := by
      have := textF_short (n.toNat - 1) q k (by omega) hq hk
      show (textF (n.toNat - 1) q k).toArray.size ≤ maxLen
      unfold maxLen
      simp only [List.size_toArray]
      omega
    generalize symsTo (n.toNat - 1) q k = pre at hR hle hnew ⊢
    generalize htx : (⟨(textF (n.toNat - 1) q k).toArray⟩ : ByteArray) = tx at htl hnew
    have hvc := hv.cell
    obtain ⟨D, ho, hs, hD⟩ := hR
    rw [List.length_map] at hs
    have hwf : (Lit.int .i64 (pre.length : Int)).wf = true := by
      have h1 : IntKind.i64.min = -9223372036854775808 := by decide
      have h2 : IntKind.i64.max = 9223372036854775807 := by decide
      simp only [Lit.wf, h1, h2, Bool.and_eq_true, decide_eq_true_eq]
      omega
    have hcast : (Maps.size D : Int) = (pre.length : Int) := by rw [hs]
    simp only [symV]
    rw [htx]
    gi_wp2_with (first
      | (gi_at_len; refine wpListIn_len_own _ rfl _ 63 rfl 9 3 Tryd.underlying63 _ w.heap.size pre.length D rfl ho ?_; rw [hcast])
      | (gi_at_mapUpdate; refine wpListIn_mapUpdate_own _ rfl _ _ _ 63 rfl 9 3 rank_keyed Tryd.underlying63 _ w.heap.size pre.length D rfl ho (by unfold maxLen; omega) _ _ _ rfl rfl (WideMaps.keyOf_string_mk Tryd.underlying9 htl) _ [] (plainElem_int Tryd.underlying3 hwf) ?_; intro w1 hown1 hgrow1))
    have hXb := ho
    obtain ⟨es, clock, hb, -⟩ := hXb
    refine ⟨KeepsFrom.of_grownBy hgrow1 (fun j e => by cases e; omega), ⟨⟨hgrow1.size, fun k' cs t' fr _ hc => ?_⟩, KeepsFrom.of_grownBy hgrow1 (fun j e => by cases e; omega)⟩, hv.kept hgrow1 (by simp), ?_, hbw.grown hgrow1 (Nat.le_of_lt ho.lt) (fun q hq => by cases hq; omega)⟩
    · have hne : some k' ≠ some w.heap.size := fun e => by cases e; rw [hb] at hc; cases hc
      exact (hgrow1.block k' (Array.getElem?_eq_some_iff.1 hc).1 hne).trans hc
    · rw [List.length_append, List.map_append]
      have := rank_put (L := pre.map symB) (n' := pre.length + 1) (w' := w1) ho (by rw [List.length_map]; exact hs) hD htl hnew (by rw [List.length_map]; exact hown1)
      have e : [(textF (n.toNat - 1) q k, q, k)].map symB = [tx] := by rw [← htx]; rfl
      rw [e]
      exact this
  case done =>
    rintro D xs Y hD rfl ⟨hv, hR, hbw⟩ hK
    have hvc := hv.cell
    gi_wp2
    refine ⟨by simp, .inl ⟨_, _, rfl, run_takeDeferred hK, ?_⟩⟩
    refine ⟨_, results_tmp rfl _ _ _, rfl, ?_, hbw.grown (grownBy_putObj' Y D _) (Nat.le_of_lt hR.lt) (fun q hq => by cases hq; omega)⟩
    exact (hR.mono (by have := rowB_le n; unfold rowB at this; rw [List.length_map] at this; omega)).heap (World.putObj_heap_other (by omega))
  case stop => exact fun D c pre Y hD _ h _ => h.elim
theorem ranks_any (n : Int) (w : World) (hL : Laid w) : Calls Tryd.prog 34 #[.int .i64 n] w fun e w' => e = .returned (.map (some w.heap.size)) ∧ RanksAt w' w.heap.size 2000 (rowB n) ∧ Below w.heap.size w w' := callsIn_wide.1 (ranks_in n w hL)
end Go.Proofs.YtaakaajcpjiccaaDoor
namespace Go.Proofs.YtaakaajcpjiccaaDoor
open Go.RowKit
open Go.Proofs
open Go.Maps (Keyed)

def rankV (n : Int) (s : ByteArray) : Value := .tuple #[.int .i64 ((placeOf (rowB n) s).getD 0 : Nat), .bool (placeOf (rowB n) s).isSome]
theorem zero_int (w : World) : (zeroValue 3).run Tryd.prog w = .ok (.int .i64 0) w := by kernel_rfl
set_option maxRecDepth 100000 in
set_option maxHeartbeats 4000000 in
theorem rank_any (n : Int) (s : ByteArray) (hsz : s.size ≤ maxLen) (w : World) (hL : Laid w) : Calls Tryd.prog 19 #[.int .i64 n, .string s] w fun e w' => e = .returned (rankV n s) ∧ Below w.heap.size w w' := by
  go_enter Tryd.func19, Tryd.ntmps19
  go_wp2_with fail
  refine (ranks_any n w hL).mono ?_
  rintro e w1 ⟨rfl, ⟨D, ho, hs, hD⟩, hb⟩
  have HB := Lib.hid hb
  obtain ⟨h1, h2⟩ := hD s hsz
  have H1 := Lib.hid h1
  have H2 := Lib.hid h2
  clear hb hD h1 h2
  go_wp2_with (at_lookup; refine wpList_lookup_own_ok_int _ rfl _ _ 63 rfl 9 3 .i64 rank_keyed Tryd.underlying63 Tryd.underlying3 (zero_int _) w.heap.size 2000 D rfl ho _ _ rfl (WideMaps.keyOf_string_mk Tryd.underlying9 hsz) ?_; intro c hat hwc)
  have hc : c = ((placeOf (rowB n) s).getD 0 : Nat) := by
    have := H2.out.symm.trans hat
    simpa using this.symm
  go_ret2
  exact ⟨by rw [H1.out, hc]; rfl, HB.out⟩
end Go.Proofs.YtaakaajcpjiccaaDoor
