/-
  legal.Row: a notation's symbols as a row of strings. legal.At: the symbol of a rank.
-/
import Derived.OwnWalkIn
import Derived.Test.YtaakaajcpjiccaaDoorNa22
import Derived.Test.YtaakaajcpjiccaaDoorNa23
set_option linter.unusedVariables false
set_option linter.unusedSimpArgs false
namespace Go.Proofs.YtaakaajcpjiccaaDoor
open Go.RowKit
open Go.Proofs
open Go.Shelf
attribute [local go_sem] Oper.semAt_some

theorem keepT_append {ts : List TypeId} {W w1 : World} {B n₀ size k : Nat} {T e : TypeId} {v : Value} {xs : List Value} {tmp : Obj} (hv : Boxed W B T v) (hrow : W.ownsRow n₀ e size v k xs) (hT : T ∈ ts) (he : e ∈ ts) (hgrow : (W.alloc tmp).grownBy w1 v.ownBlock) (u : Value) : KeepT ts W (w1.setCell ⟨B, 0, none⟩ u) := by
  refine ⟨Nat.le_trans (by rw [World.size_alloc]; omega) (Nat.le_trans hgrow.size (grownBy_setCell' w1 B u).size), fun k cs t fr ht hk => ?_⟩
  have hkl := (Array.getElem?_eq_some_iff.1 hk).1
  have h1 : k ≠ B := by
    rintro rfl
    rw [show W.heap[k]? = _ from hv] at hk
    cases hk
    exact ht hT
  have h2 : some k ≠ v.ownBlock := by
    rcases hrow.2 with ⟨rfl, _⟩ | ⟨g, cap, cur, rfl, _, hgb, _⟩
    · simp [Value.ownBlock]
    · intro e'
      obtain rfl : k = g := by simpa [Value.ownBlock] using e'
      rw [hgb] at hk
      cases hk
      exact ht he
  rw [Below.heap_setCell w1 ⟨B, 0, none⟩ u k h1, hgrow.block k (by rw [World.size_alloc]; omega) h2, heap_alloc_old _ _ hkl]
  exact hk
theorem length_flat_le {α β : Type} (f : α → List β) (c : Nat) : ∀ (l : List α), (∀ a ∈ l, (f a).length ≤ c) → (l.flatMap f).length ≤ l.length * c
  | [], _ => by simp
  | a :: l, h => by
    have h1 := h a (by simp)
    have h2 := length_flat_le f c l (fun b hb => h b (by simp [hb]))
    simp only [List.flatMap_cons, List.length_append, List.length_cons, Nat.succ_mul]
    omega
theorem symsQ_le (m q : Nat) : (symsQ m q).length ≤ 48 := by
  unfold symsQ
  rw [List.length_map]
  exact Nat.le_trans (List.length_filter_le _ _) (by simp)
theorem symsTo_le (m q k : Nat) (hq : q ≤ 21) (hk : k ≤ 48) : (symsTo m q k).length ≤ 1056 := by
  unfold symsTo symsA
  rw [List.length_append, List.length_map]
  have h1 := length_flat_le (symsQ m) 48 (List.range q) (fun a _ => symsQ_le m a)
  rw [List.length_range] at h1
  have h2 := List.length_filter_le (fun a => toldF m q a) (List.range k)
  rw [List.length_range] at h2
  have : q * 48 ≤ 21 * 48 := Nat.mul_le_mul_right _ hq
  omega
def symV (x : SymD) : Value := .string ⟨x.1.toArray⟩
def rowB (n : Int) : List ByteArray := (symsN n).map fun x => ⟨x.1.toArray⟩
theorem clear_strs : ClearT [9, 29] := ⟨by decide, by decide, by decide, by decide, by decide⟩
def RowI (w : World) (pre : List SymD) (X : World) : Prop := (∃ v, Boxed X w.heap.size 29 v ∧ X.ownsRow w.heap.size 9 1 v pre.length (pre.map symV) ∧ True) ∧ Below w.heap.size w X
theorem rowI_own (w : World) {B : Nat} (hB : w.heap.size ≤ B) : OwnFrom B (RowI w) :=
  ((holdsRow_own w.heap.size w.heap.size 29 9 1 (fun pre : List SymD => pre.length) (fun pre => pre.map symV) (fun _ _ => True)).from B).and (ownFrom_below (Nat.le_refl _) hB)
set_option maxRecDepth 100000 in
set_option maxHeartbeats 4000000 in
theorem row_in (n : Int) (w : World) (hL : Laid w) : CallsIn Fence.wide 20 Tryd.prog 15 #[.int .i64 n] w fun e w' => ∃ v, e = .returned v ∧ OwnS w' w.heap.size v (rowB n) ∧ Below w.heap.size w w' := by
  obtain ⟨i0, hi, hz0, hz1, hz2⟩ := info_parts info_str
  have hB1 := Boxed.new w 29 (.slice none 0 0)
  have HL := Lib.hid hL
  clear hL
  refine callsIn_of_wp_marks Tryd.func15 rfl trivial ?_ rfl
  simp only [Tryd.ntmps15, List.size_toArray, List.length_cons, List.length_nil, Nat.reduceAdd, Nat.reduceSub, Array.replicate_succ, Array.replicate_zero, List.push_toArray, List.append_toArray, List.nil_append, List.cons_append]
  gi_wp2
  refine ⟨trivial, ?_⟩
  refine (all_in Fence.wide (20 - 1) trivial rfl n _).mono ?_
  rintro e w' ⟨rfl, rfl⟩
  gi_wp2
  obtain ⟨V, hV⟩ : ∃ V, (w.alloc (.cells #[.slice none 0 0] 29)).alloc (.cells #[.int .i64 n] 3) = V := ⟨_, rfl⟩
  have hWV : Below w.heap.size w V := by rw [← hV]; exact ((Below.refl _ _).alloc (Nat.le_refl _) _).alloc (by simp) _
  have hBV : Boxed V w.heap.size 29 (.slice none 0 0) := by rw [← hV]; exact hB1.alloc _
  have hNV : V.cell? ⟨w.heap.size + 1, 0, none⟩ = some (.int .i64 n) := by rw [← hV]; exact cellNew3 (by simp) rfl
  have hVs : V.heap.size = w.heap.size + 2 := by rw [← hV]; simp
  rw [hV]
  clear hV hB1
  refine range_ok (F := Fence.wide) rfl (by omega) (gf := 43) (lb := #[.pointer (some ⟨w.heap.size + 1, 0, none⟩)]) rfl trivial (enters_of Tryd.func43 (by kernel_rfl) rfl)
    (all_seq (20 - 1) (by omega) (w.heap.size + 1) n [9, 29] clear_strs V (laid_under HL.out hWV) hNV)
    (fun h k => ⟨h.1.trans k.1, h.2.trans k.2⟩)
    (fun X o o' h hc => ⟨KeepT.putObj o' h hc, KeepsFrom.of_grownBy (grownBy_putObj' X _ o') (fun j e => by cases e; omega)⟩)
    (Below.refl _ _) (fun _ => rfl)
    (RowI w) (fun _ _ _ => False) (rowI_own w (by omega)) (fun c s A C row hs hg hr => hs)
    ⟨⟨_, hBV, World.ownsRow_nil _ _ _ _, trivial⟩, hWV⟩
    (fun x a' X => a' = { tmps := #[.int .i64 n, undef, .slice none 0 0, .pointer (some ⟨w.heap.size, 0, none⟩), symV x, .int .i64 n, .func (.func 43) #[] #[.pointer (some ⟨w.heap.size + 1, 0, none⟩)], symV x, .agg #[.int .i64 (x.2.2 : Int), .int .i64 ((x.2.1 : Int) - 1)], undef, undef, undef, undef, undef], defers := [] })
    (fun x a' s A C row h hg hr => h) ?assign ?body ?done ?stop
  case assign =>
    rintro l2 pre x Y K hI hK
    simp only [encY] at hK ⊢
    gi_wp2
    exact hK _ _ (KeepsFrom.refl _ _) ⟨KeepT.refl _ _, KeepsFrom.refl _ _⟩ hI rfl
  case body =>
    rintro l2 pre x a' X ⟨⟨v, hv, hown, -⟩, hbw⟩ rfl ⟨hn1, hn5, q, k, hq, hk, rfl, ht, rfl⟩
    have hle := symsTo_le (n.toNat - 1) q k (by omega) (by omega)
    generalize symsTo (n.toNat - 1) q k = pre at hown hle ⊢
    generalize textF (n.toNat - 1) q k = tx at ht ⊢
    have hvc := hv.cell
    have hvf := hv.frozen
    have hwX : w.heap.size ≤ X.heap.size := Nat.le_of_lt hv.lt
    simp only [symV]
    gi_wp2_with (gi_at_builtin; refine wpListIn_append_own _ rfl _ _ 29 rfl w.heap.size 9 i0 _ 1 16 Tryd.underlying29 hi hz0 hz1 hz2 rfl (by decide) v pre.length (pre.map symV) rfl (hown.alloc _) ⟨X.heap.size, 0, none⟩ 1 1 [.string ⟨tx.toArray⟩] rfl rfl ?c1 ?c2 ?c3 ?c4 ?c5 ?_)
    case c1 =>
      intro j u hj
      rcases j with _ | j
      · cases hj; exact cellNew X _ _ 0 _ rfl
      · simp at hj
    case c2 => intro u hu; simp only [List.mem_singleton] at hu; subst hu; rfl
    case c3 => unfold maxLen; omega
    case c4 => omega
    case c5 => rw [World.size_alloc]; omega
    intro v' w1 hown' hgrow hnn
    obtain ⟨g', cap', rfl⟩ := ownsRow_succ hown'
    obtain ⟨a1, a2, a3, a4, a5⟩ := Boxed.appended hv (by decide) hown hwX (Nat.le_refl _) hown' hgrow
    have HKT := Lib.hid (keepT_append (ts := [9, 29]) hv hown (by decide) (by decide) hgrow (.slice (some ⟨g', 0, none⟩) (pre.length + 1) cap'))
    have HA := Lib.hid (And.intro a2 (And.intro a3 (And.intro a4 a5)))
    have b1 := a1.cell
    have b2 := a1.frozen
    clear a1 a2 a3 a4 a5 hown' hgrow hown hv
    gi_wp2
    obtain ⟨a2, a3, a4, a5⟩ := HA.out
    exact ⟨a4.from _, ⟨HKT.out, a4.from _⟩, ⟨_, a2, by rw [List.length_append, List.map_append]; exact a3, trivial⟩, hbw.trans a5⟩
  case done =>
    rintro D xs Y hD rfl ⟨⟨v, hv, hown, -⟩, hbw⟩ hK
    have hvc := hv.cell
    gi_wp2
    refine ⟨by simp, .inl ⟨_, _, rfl, run_takeDeferred hK, ?_⟩⟩
    refine ⟨_, results_tmp rfl _ _ _, v, rfl, ?_, hbw.grown (grownBy_putObj' Y D _) (Nat.le_of_lt hv.lt) (fun q hq => by cases hq; omega)⟩
    have := ownsRow_putObj hown (.deferred none) hK rfl
    unfold OwnS rowB
    rw [List.length_map, List.map_map]
    exact this
  case stop => exact fun D c pre Y hD _ h _ => h.elim
theorem row_any (n : Int) (w : World) (hL : Laid w) : Calls Tryd.prog 15 #[.int .i64 n] w fun e w' => ∃ v, e = .returned v ∧ OwnS w' w.heap.size v (rowB n) ∧ Below w.heap.size w w' := callsIn_wide.1 (row_in n w hL)
end Go.Proofs.YtaakaajcpjiccaaDoor
namespace Go.Proofs.YtaakaajcpjiccaaDoor
open Go.RowKit
open Go.Proofs

theorem rowB_le (n : Int) : (rowB n).length ≤ 1056 := by
  unfold rowB symsN
  rw [List.length_map]
  split
  · rw [← symsTo_all]
    exact symsTo_le _ 21 0 (by omega) (by omega)
  · simp
def atV (n r : Int) : Value := if 0 ≤ r ∧ r < (rowB n).length then .tuple #[.string ((rowB n)[r.toNat]?.getD ⟨#[]⟩), .bool true] else .tuple #[.string ⟨#[]⟩, .bool false]
set_option maxRecDepth 100000 in
set_option maxHeartbeats 4000000 in
theorem at_any (n r : Int) (w : World) (hL : Laid w) : Calls Tryd.prog 16 #[.int .i64 n, .int .i64 r] w fun e w' => e = .returned (atV n r) ∧ Below w.heap.size w w' := by
  have hle := rowB_le n
  go_enter Tryd.func16, Tryd.ntmps16
  go_wp2_with fail
  refine (row_any n w hL).mono ?_
  rintro e w1 ⟨v, rfl, hown, hb⟩
  obtain ⟨a, c, rfl, hcell⟩ := hown.sl
  have HB := Lib.hid hb
  clear hb hown
  by_cases hr : 0 ≤ r ∧ r < ((rowB n).length : Int)
  · obtain ⟨h0, h1⟩ := hr
    have HAT : Hid (atV n r = .tuple #[.string ((rowB n)[r.toNat]?.getD ⟨#[]⟩), .bool true]) := by show _ = _; rw [atV, if_pos ⟨h0, h1⟩]
    rcases hcell with hn | ⟨g, rfl, hc⟩
    · rw [hn] at h1; simp at h1; omega
    · obtain ⟨k, rfl⟩ : ∃ k : Nat, r = (k : Int) := ⟨r.toNat, by omega⟩
      have hcell2 := hc k (by omega)
      have HK : Hid (((k : Int)).toNat = k) := Int.toNat_natCast k
      clear hc
      generalize (rowB n).length = len at hle h1 hcell2 ⊢
      generalize hsv : (rowB n)[k]?.getD ⟨#[]⟩ = sv at hcell2
      go_wp2_with fail
      go_ret2
      exact ⟨by rw [HAT.out, HK.out, hsv]; rfl, HB.out⟩
  · have HAT : Hid (atV n r = .tuple #[.string ⟨#[]⟩, .bool false]) := by show _ = _; rw [atV, if_neg hr]
    generalize ((rowB n).length) = len at hle hr ⊢
    clear hcell
    by_cases h0 : 0 ≤ r
    · have h1 : (len : Int) ≤ r := by omega
      clear hr
      go_wp2_with fail
      go_ret2
      exact ⟨by rw [HAT.out]; rfl, HB.out⟩
    · have h1 : r < 0 := by omega
      clear hr
      go_wp2_with fail
      go_ret2
      exact ⟨by rw [HAT.out]; rfl, HB.out⟩
end Go.Proofs.YtaakaajcpjiccaaDoor
