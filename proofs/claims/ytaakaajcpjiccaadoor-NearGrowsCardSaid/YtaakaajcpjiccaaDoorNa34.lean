/-
  near.walker.walk. near.Walk: the iterator over the words that lie near.
-/
import Derived.Sort.CutIn
import Derived.Deep.RegionHeld3
import Derived.Test.YtaakaajcpjiccaaDoorNa33
set_option linter.unusedVariables false
set_option linter.unusedSimpArgs false
namespace Go.Proofs.YtaakaajcpjiccaaDoor
open Go.RowKit
open Go.Proofs
open Go.Shelf
attribute [local go_sem] Oper.semAt_some

theorem wideScope {n : Nat} {P : Program} {c : Code} {Q : Exit → Act → World → Prop} {a : Act} {w : World} (h : c.wpIn Fence.wide n P (Exit.noGoto Q) a w) : (Code.scope c).wpIn Fence.wide n P Q a w := wpIn_wide.2 (wp_scope_straight (wpIn_wide.1 h))
theorem wideLabel {n l : Nat} {P : Program} {Q : Exit → Act → World → Prop} {a : Act} {w : World} (h : Q .normal a w) : (Code.label l).wpIn Fence.wide n P Q a w := wpIn_wide.2 (wp_label h)
theorem results_cellB {fn : Func} {p : Tmp} {b : Bool} {a : Addr} (h : fn.results = #[.cell p 4]) (tmps : Array Value) (w : World) (hp : tmps.getD p undef = .pointer (some a)) (hc : w.cell? a = some (.bool b)) :
    (results fn tmps).run Tryd.prog w = .ok (.bool b) w := by
  have h1 : (loadVar 4 a).run Tryd.prog w = .ok (.bool b) w := by
    simp [loadVar, go_sem, hc]
  have hp2 : tmps[p]?.getD undef = .pointer (some a) := by simpa using hp
  simp [results, h, hp2, asAddr, h1, Result.andThen]
theorem KeepP.setOut {S : Nat → Obj → Prop} {W X : World} (h : KeepP S W X) {g j : Nat} (hg : W.heap.size ≤ g) (v : Value) : KeepP S W (X.setCell ⟨g, j, none⟩ v) :=
  ⟨by have := h.size; simpa [World.setCell] using this, fun k o hk hs => by
    have hkl := (Array.getElem?_eq_some_iff.1 hk).1
    exact (Below.heap_setCell X ⟨g, j, none⟩ v k (by show k ≠ g; omega)).trans (h.same k o hk hs), h.os, h.tape, h.output⟩
theorem KeepP.putOut {S : Nat → Obj → Prop} {W X : World} (h : KeepP S W X) {g : Nat} (hg : W.heap.size ≤ g) (o : Obj) : KeepP S W (X.putObj g o) :=
  ⟨Nat.le_trans h.size (grownBy_putObj' X g o).size, fun k o' hk hs => by
    have hkl := (Array.getElem?_eq_some_iff.1 hk).1
    exact (World.putObj_heap_other (by omega)).trans (h.same k o' hk hs), h.os, h.tape, h.output⟩
theorem keepOwn_set {B0 : Nat} {ts : List TypeId} {X : World} {g j : Nat} {cs : Array Value} {t : TypeId} {fr : Nat × Nat} (hb : X.heap[g]? = some (.cells cs t fr)) (hB : B0 ≤ g) (ht : t ∈ ts) (v : Value) : KeepP (fun k o => ¬ ownP B0 ts k o) X (X.setCell ⟨g, j, none⟩ v) :=
  ⟨by simp [World.setCell], fun k o hk hn => by
    refine (Below.heap_setCell X ⟨g, j, none⟩ v k (fun e => ?_)).trans hk
    simp only at e
    rw [e, hb] at hk
    cases hk
    exact hn (by rw [e]; exact ownP_cells hB ht), rfl, rfl, rfl⟩
theorem keepOwn_put {B0 : Nat} {ts : List TypeId} {X : World} {l : Nat} {o : Obj} (o' : Obj) (hl : X.heap[l]? = some o) (hc : o.isCells = false) (hB : B0 ≤ l) : KeepP (fun k o => ¬ ownP B0 ts k o) X (X.putObj l o') :=
  KeepP.putObj o' hl (fun hn => hn ⟨hB, .inl hc⟩)
theorem three_new (w : World) (c1 c2 c3 : Array Value) (t1 t2 t3 : TypeId) :
    (((w.alloc (.cells c1 t1)).alloc (.cells c2 t2)).alloc (.cells c3 t3)).heap[w.heap.size]? = some (.cells c1 t1 (0, 0)) ∧
    (((w.alloc (.cells c1 t1)).alloc (.cells c2 t2)).alloc (.cells c3 t3)).heap[w.heap.size + 1]? = some (.cells c2 t2 (0, 0)) ∧
    (((w.alloc (.cells c1 t1)).alloc (.cells c2 t2)).alloc (.cells c3 t3)).heap[w.heap.size + 1 + 1]? = some (.cells c3 t3 (0, 0)) := by
  have h1 := blkNew w c1 t1
  have h2 := blkNew (w.alloc (.cells c1 t1)) c2 t2
  have h3 := blkNew ((w.alloc (.cells c1 t1)).alloc (.cells c2 t2)) c3 t3
  rw [World.size_alloc] at h2
  rw [World.size_alloc, World.size_alloc] at h3
  exact ⟨blkAlloc _ (blkAlloc _ h1), blkAlloc _ h2, h3⟩
set_option maxRecDepth 100000 in
set_option maxHeartbeats 4000000 in
theorem walk_in (S : Nat → Obj → Prop) (B0 B tp l : Nat) (mbs : List Nat) (T : List NodeD) (s : ByteArray) (k : Int) (L : List (Nat × Nat)) (J Jx : List (Nat × Nat) → World → Prop)
    (hS : SafeW S B0 mbs) (hWF : WfT T) (hs : s.size ≤ 100000) (hJ : StabP B0 walkTs J) (hJx : StabP B0 walkTs Jx)
    (hY : ∀ pre x W1, J pre W1 → okW L pre x → YieldAt Fence.wide 0 Tryd.prog l (encW x) W1 fun e W' =>
      (e = .returned (.bool true) ∧ J (pre ++ [x]) W' ∧ KeepP S W1 W') ∨ (e = .returned (.bool false) ∧ Jx (pre ++ [x]) W' ∧ KeepP S W1 W')) :
    ∀ (f i : Nat) (t : List UInt8) (g cap : Nat) (pre0 rest : List (Nat × Nat)) (W : World), i < T.length → T.length ≤ f + i → t.length ≤ i → TrieAt W B tp mbs T → OwnN W B0 (.slice (some ⟨g, 0, none⟩) (s.size + 1) cap) (rowR s.toList t) → B0 ≤ W.heap.size → J pre0 W → L = pre0 ++ walkL T s.toList k f i t ++ rest →
    CallsIn Fence.wide 20 Tryd.prog 36 #[.agg #[.pointer (some ⟨tp, 0, none⟩), .string s, .int .i64 k, .func (.yield l) #[] #[]], .int .i64 (i : Int), .slice (some ⟨g, 0, none⟩) (s.size + 1) cap] W fun e W' =>
      KeepP S W W' ∧ ((e = .returned (.bool true) ∧ J (pre0 ++ walkL T s.toList k f i t) W') ∨ (e = .returned (.bool false) ∧ ∃ pre, partW L pre ∧ Jx pre W')) := by
  intro f
  induction f with
  | zero => intro i t g cap pre0 rest W h1 h2; omega
  | succ f ih =>
    intro i t g cap pre0 rest W hi hf ht hT hR hB0 hj hL
    have IH := Lib.hid ih
    have HY := Lib.hid hY
    have HJ := Lib.hid hJ
    have HJX := Lib.hid hJx
    have HS := Lib.hid hS
    have HT := Lib.hid hT
    have HWF := Lib.hid hWF
    have HR := Lib.hid hR
    have HL := Lib.hid hL
    have HSM := Lib.hid hT.small
    clear ih hY hJ hJx hS hT hWF hR hL
    refine callsIn_of_wp_marks Tryd.func36 rfl trivial ?_ rfl
    simp only [Tryd.ntmps36, List.size_toArray, List.length_cons, List.length_nil, Nat.reduceAdd, Nat.reduceSub, Array.replicate_succ, Array.replicate_zero, List.push_toArray, List.append_toArray, List.nil_append, List.cons_append]
    gi_wp2
    refine wideScope ?_
    have hnew := three_new W #[.pointer (some ⟨tp, 0, none⟩), .string s, .int .i64 k, .func (.yield l) #[] #[]] #[.slice (some ⟨g, 0, none⟩) (s.size + 1) cap] #[.bool false] 67 54 4
    generalize hV : (((W.alloc (.cells #[.pointer (some ⟨tp, 0, none⟩), .string s, .int .i64 k, .func (.yield l) #[] #[]] 67)).alloc (.cells #[.slice (some ⟨g, 0, none⟩) (s.size + 1) cap] 54)).alloc (.cells #[.bool false] 4)) = V at hnew
    have HWV : Hid (Below W.heap.size W V) := by show _; rw [← hV]; exact (((Below.refl _ _).alloc (Nat.le_refl _) _).alloc (by simp) _).alloc (by simp; omega) _
    have hVs : V.heap.size = W.heap.size + 3 := by rw [← hV]; simp
    clear hV
    obtain ⟨bx, br, bo⟩ := hnew
    have x0 := cellB bx (j := 0) rfl
    have x1 := cellB bx (j := 1) rfl
    have x2 := cellB bx (j := 2) rfl
    have x3 := cellB bx (j := 3) rfl
    have r0 := cellB br (j := 0) rfl
    have HBX := Lib.hid bx
    have HBR := Lib.hid br
    have HBO := Lib.hid bo
    have HTV : Hid (TrieAt V B tp mbs T) := HT.out.below HWV.out
    have HRV : Hid (OwnN V B0 (.slice (some ⟨g, 0, none⟩) (s.size + 1) cap) (rowR s.toList t)) := ownBelow HR.out HWV.out
    have HWO := Lib.hid (word_any (i : Int) V HTV.out)
    have hisf : isF (i : Int) T.length = true := decide_eq_true ⟨by omega, by omega⟩
    obtain ⟨d, hd⟩ : ∃ d, levR s.toList.reverse t = d := ⟨_, rfl⟩
    have rl := (HRV.out.at s.size d (by rw [← size_list s, rowR_last, hd])).1
    have HD := Lib.hid hd
    clear bx br bo hd
    have hgetD : T[i]?.getD default = T[i] := by rw [List.getElem?_eq_getElem hi]; rfl
    gi_wp2
    refine ⟨trivial, ?_⟩
    refine (callsIn_wide.2 HWO.out).mono ?_
    rintro e w' ⟨rfl, hw⟩
    rw [hw]
    clear hw
    obtain ⟨nn, bb, hWV, hbn⟩ : ∃ (nn : Nat) (bb : Bool), wordV T (i : Int) = .tuple #[.int .i64 (nn : Int), .bool bb] ∧ hereL T s.toList k i t = if bb = true ∧ (d : Int) ≤ k then [(nn, d)] else [] := by
      unfold wordV hereL
      rw [if_pos hisf, Int.toNat_natCast, hgetD, HD.out]
      cases (T[i]).word with
      | none => exact ⟨0, false, rfl, by simp⟩
      | some n => exact ⟨n, true, rfl, by simp⟩
    rw [hWV]
    have HBN := Lib.hid hbn
    clear hWV hbn
    have HJV : Hid (J pre0 V) := stabP_below' HJ.out hj HWV.out
    have HOB : Hid (∀ X, KeepP S V X → X.heap[W.heap.size + 1 + 1]? = some (.cells #[.bool false] 4 (0, 0))) := fun X hk => hk.same _ _ HBO.out (HS.out.own _ _ (ownP_cells (by omega) (by decide)))
    have HKW : Hid (KeepP S W V) := KeepP.below HWV.out
    gi_upto_region 3 with (fail)
    gi_cut [40] from 26 (fun s40 wc => KeepP S V wc ∧ ((s40 = .bool false ∧ J (pre0 ++ hereL T s.toList k i t) wc) ∨ (s40 = .bool true ∧ ∃ pre, partW L pre ∧ Jx pre wc)))
    case first =>
      cases bb with
      | false =>
        gi_wp2
        refine ⟨(fun f h => by cases h), ?_⟩
        gi_wp2
        gi_meet
        refine ⟨KeepP.refl _ _, .inl ⟨rfl, ?_⟩⟩
        rw [HBN.out]
        simpa using HJV.out
      | true =>
        by_cases hdk : (d : Int) ≤ k
        · have HH : Hid (hereL T s.toList k i t = [(nn, d)]) := by show _ = _; rw [HBN.out, if_pos ⟨rfl, hdk⟩]
          obtain ⟨fn, tmps, assign, body, hy, hR⟩ := yield_any (m' := 19) rfl (HY.out pre0 (nn, d) V HJV.out ⟨(keysS (T[i]?.getD default).kids).flatMap (downL T s.toList k f i t) ++ rest, by rw [HL.out, walkL_succ, HH.out]; simp⟩)
          simp only [encW] at hy
          gi_wp2
          refine hR.mono ?_
          rintro e X (⟨rfl, hj3, hk3⟩ | ⟨rfl, hj3, hk3⟩)
          · have HX := Lib.hid (And.intro hj3 hk3)
            clear hj3 hk3 hR hy
            gi_wp2
            gi_meet
            rw [HH.out]
            exact ⟨HX.out.2, .inl ⟨rfl, HX.out.1⟩⟩
          · have HX := Lib.hid (And.intro hj3 hk3)
            clear hj3 hk3 hR hy
            gi_wp2
            gi_meet
            exact ⟨HX.out.2, .inr ⟨rfl, _, ⟨_, by rw [HL.out, walkL_succ, HH.out, List.append_assoc, List.append_assoc, List.append_assoc]⟩, HX.out.1⟩⟩
        · gi_wp2
          refine ⟨(fun f h => by cases h), ?_⟩
          gi_wp2
          gi_meet
          refine ⟨KeepP.refl _ _, .inl ⟨rfl, ?_⟩⟩
          rw [HBN.out, if_neg (fun h => by have := h.2; omega)]
          simpa using HJV.out
    case rest =>
      obtain ⟨hkp, ⟨rfl, hj1⟩ | ⟨rfl, hx1⟩⟩ := hcut
      · have HKP := Lib.hid hkp
        have HJ1 := Lib.hid hj1
        clear hkp hj1
        have hbx := HKP.out.same _ _ HBX.out (HS.out.own _ _ (ownP_cells (by omega) (by decide)))
        have y0 := cellB hbx (j := 0) rfl
        have hVw : V.heap.size ≤ wc.heap.size := HKP.out.size
        gi_wp2
        refine wideLabel ?_
        gi_wp2
        refine ⟨trivial, ?_⟩
        refine (callsIn_wide.2 (children_any (some ⟨tp, 0, none⟩) (i : Int) wc)).mono ?_
        rintro e w' ⟨rfl, rfl⟩
        gi_wp2
        have hcn := two_new wc #[.pointer (some ⟨tp, 0, none⟩)] #[.int .i64 (i : Int)] 49 3
        generalize hV2 : (wc.alloc (.cells #[.pointer (some ⟨tp, 0, none⟩)] 49)).alloc (.cells #[.int .i64 (i : Int)] 3) = V2 at hcn
        have hWV2 : Below wc.heap.size wc V2 := by rw [← hV2]; exact ((Below.refl _ _).alloc (Nat.le_refl _) _).alloc (by simp) _
        have hV2s : V2.heap.size = wc.heap.size + 2 := by rw [← hV2]; simp
        have HK2 : Hid (KeepP S V V2) := HKP.out.trans (KeepP.below hWV2)
        have HT2 : Hid (TrieAt V2 B tp mbs T) := HTV.out.keepP HS.out HK2.out
        have HJ2 : Hid (J (pre0 ++ hereL T s.toList k i t) V2) := stabP_below' HJ.out HJ1.out hWV2
        have hmi : mbs[i]'(by rw [HT2.out.len]; exact hi) < W.heap.size := by
          have hz : i < (mbs.zip T).length := by rw [List.length_zip, HT2.out.len, Nat.min_self]; exact hi
          have := (HT.out.kids _ (List.getElem_mem hz)).lt
          rw [List.getElem_zip] at this
          exact this
        clear hV2 hWV2 y0 hbx
        have htb := cellB hcn.1 (j := 0) rfl
        have hnb := cellB hcn.2 (j := 0) rfl
        refine range_ok (F := Fence.wide) rfl (by omega) (gf := 70) (lb := #[.pointer (some ⟨wc.heap.size, 0, none⟩), .pointer (some ⟨wc.heap.size + 1, 0, none⟩)]) rfl trivial (enters_of Tryd.func70 (by kernel_rfl) rfl)
          (children_seq (20 - 1) (by omega) (fun q o => S q o ∧ q ≠ V2.heap.size + 1 ∧ q ≠ W.heap.size + 1 + 1) B tp wc.heap.size (wc.heap.size + 1) mbs T i hi V2 HT2.out htb hnb (fun es cl => ⟨HS.out.maps _ (List.getElem_mem _) es cl, by omega, by omega⟩) (fun q cs fr hq => ⟨HS.out.own _ _ (ownP_cells (by omega) (by decide)), by omega, by omega⟩))
          (fun h k => h.trans k)
          (fun X o o' h hc => KeepP.putObj o' h (fun hn => hn.2.1 rfl))
          (Below.refl _ _) (fun _ => rfl)
          (fun pre X => J (pre0 ++ hereL T s.toList k i t ++ pre.flatMap (downL T s.toList k f i t)) X ∧ KeepP S V2 X)
          (fun c pre X => c = .ret ∧ (∃ p, partW L p ∧ Jx p X) ∧ X.cell? ⟨W.heap.size + 1 + 1, 0, none⟩ = some (.bool false) ∧ KeepP S W X)
          (fun q X Y row h hg hr => ⟨(HJ.out.mono (by omega)).own _ X Y row h.1 hg hr, own_keepP (β := Unit) (Nat.le_refl _) () X Y row h.2 hg hr⟩)
          (fun c q X Y row h hg hr => by
            obtain ⟨h1, ⟨p, h2, h3⟩, h4, h5⟩ := h
            refine ⟨h1, ⟨p, h2, (HJX.out.mono (by omega)).own _ X Y row h3 hg hr⟩, ?_, own_keepP (β := Unit) (B := V2.heap.size) (by omega) () X Y row h5 hg hr⟩
            exact (World.cell?_of_block (w := X) (hg.block _ (World.block_lt_of_cell? X ⟨W.heap.size + 1 + 1, 0, none⟩ h4) (fun e => by have h9 : V2.heap.size ≤ W.heap.size + 1 + 1 := (hr _ e.symm).1; omega))).trans h4)
          ⟨by simpa using HJ2.out, KeepP.refl _ _⟩
          (fun c a' X => a' = { tmps := #[.agg #[.pointer (some ⟨tp, 0, none⟩), .string s, .int .i64 k, .func (.yield l) #[] #[]], .int .i64 (i : Int), .slice (some ⟨g, 0, none⟩) (s.size + 1) cap, .pointer (some ⟨W.heap.size, 0, none⟩), undef, .pointer (some ⟨W.heap.size + 1, 0, none⟩), .pointer (some ⟨W.heap.size + 1 + 1, 0, none⟩), .int .i64 (nn : Int), .bool bb, .int .i64 (d : Int), .int .u8 (c.toNat : Int), .int .i64 (((kidOf (T[i]).kids c).getD 0 : Nat) : Int), undef, .tuple #[.int .i64 (nn : Int), .bool bb], .pointer (some ⟨W.heap.size, 0, none⟩), .pointer (some ⟨tp, 0, none⟩), .int .i64 (i : Int), .tuple #[.int .i64 (nn : Int), .bool bb], .int .i64 (nn : Int), .bool bb, .slice (some ⟨g, 0, none⟩) (s.size + 1) cap, .pointer (some ⟨W.heap.size, 1, none⟩), .string s, .int .i64 (s.size : Int), .pointer (some ⟨g, s.size, none⟩), .int .i64 (d : Int), u26, u27, u28, u29, u30, u31, u32, u33, u34, u35, u36, u37, u38, u39, .bool false, .pointer (some ⟨W.heap.size, 0, none⟩), .pointer (some ⟨tp, 0, none⟩), .int .i64 (i : Int), .func (.func 70) #[] #[.pointer (some ⟨wc.heap.size, 0, none⟩), .pointer (some ⟨wc.heap.size + 1, 0, none⟩)], .int .u8 (c.toNat : Int), .int .i64 (((kidOf (T[i]).kids c).getD 0 : Nat) : Int), u47, u48, u49, u50, u51, u52, u53, u54, u55, u56, u57, u58, u59, u60, u61], defers := [] })
          (fun x a' s A C row h hg hr => h) ?assign ?body ?done ?stop
        case assign =>
          rintro l2 pre c X K hI hK
          simp only [encC] at hK ⊢
          gi_wp2
          exact hK _ _ (KeepsFrom.refl _ _) (KeepP.refl _ _) hI rfl
        case body =>
          rintro l2 pre c a' X ⟨hj, hk⟩ rfl ⟨more, hks⟩
          have HKX : Hid (KeepP S V X) := HK2.out.trans hk
          have HK2X := Lib.hid hk
          have HJ3 := Lib.hid hj
          have HKS := Lib.hid hks
          have bxX := HKX.out.same _ _ HBX.out (HS.out.own _ _ (ownP_cells (by omega) (by decide)))
          have brX := HKX.out.same _ _ HBR.out (HS.out.own _ _ (ownP_cells (by omega) (by decide)))
          have y0 := cellB bxX (j := 0) rfl
          have y1 := cellB bxX (j := 1) rfl
          have y2 := cellB bxX (j := 2) rfl
          have y3 := cellB bxX (j := 3) rfl
          have r0 := cellB brX (j := 0) rfl
          have HRX : Hid (OwnN X B0 (.slice (some ⟨g, 0, none⟩) (s.size + 1) cap) (rowR s.toList t)) := HRV.out.keepP HS.out HKX.out
          have hcap : s.size + 1 ≤ cap := own_cap HRX.out
          have hrow : RowN X (some ⟨g, 0, none⟩) (rowR s.toList t) := by
            obtain ⟨g', cap', e, hr⟩ := HRX.out.row (by intro e; have := rowR_length s.toList t; rw [e] at this; simp at this)
            simp only [Value.slice.injEq, Option.some.injEq, Addr.mk.injEq, and_true] at e
            rw [e.1]; exact hr
          have HNX := Lib.hid (next_any s t c g cap X hs (by have := HSM.out; omega) hcap hrow)
          have hXs : V2.heap.size ≤ X.heap.size := hk.size
          clear hj hk hks bxX brX hrow
          gi_wp2
          refine ⟨trivial, ?_⟩
          refine (callsIn_wide.2 HNX.out).mono ?_
          rintro e X3 ⟨v3, rfl, ho3, hb3⟩
          obtain ⟨g3, cap3, hv3, hrow3⟩ := ho3.row (by intro e; have := rowR_length s.toList (c :: t); rw [e] at this; simp at this)
          rw [rowR_length, size_list] at hv3
          subst hv3
          have hg3B : X.heap.size ≤ g3 := (ho3.lt g3 rfl).1
          have hcap3 : s.size + 1 ≤ cap3 := own_cap ho3
          have HO3 : Hid (OwnN X3 B0 (.slice (some ⟨g3, 0, none⟩) (s.size + 1) cap3) (rowR s.toList (c :: t))) := own_base ho3 (by omega)
          have HB3 := Lib.hid hb3
          have z0 := cell_under y0 hb3
          have z1 := cell_under y1 hb3
          have z2 := cell_under y2 hb3
          have z3 := cell_under y3 hb3
          have HLE : Hid (∀ n, Calls Tryd.prog 51 #[.slice (some ⟨g3, 0, none⟩) (s.size + 1) cap3] (X3.drewN n) fun e w' => e = .returned (.int .i64 (leastN (rowR s.toList (c :: t)) : Nat)) ∧ ∃ m, w' = (X3.drewN n).drewN m) := fun n => by
            have h := Least_any (rowR s.toList (c :: t)) g3 cap3 (X3.drewN n) (by rw [rowR_length, size_list]; omega) (by rw [rowR_length, size_list]; omega) (by intro e; have := rowR_length s.toList (c :: t); rw [e] at this; simp at this) (fun x hx => by
              have h1 := leastN_le s.toList (c :: t) x hx
              have h2 := HSM.out
              rw [size_list, List.length_cons] at h1
              omega) (hrow3.drewN n)
            rw [rowR_length, size_list] at h
            exact h
          obtain ⟨ln, hln⟩ : ∃ ln, leastN (rowR s.toList (c :: t)) = ln := ⟨_, rfl⟩
          have HLN := Lib.hid hln
          rw [hln] at HLE
          clear hln ho3 hb3 hrow3 y0 y1 y2 y3 r0
          gi_wp2
          refine quiet_round (F := Fence.wide) rfl (by kernel_rfl) (by kernel_rfl) (by kernel_rfl) ?_
          have hfnL : Fence.wide.fn 51 := trivial
          repeat (gi_big_quiet_step ((gi_at_call 51; exact CallsIn.quiet_of (callsIn_wide.2 (HLE.out _)))))
          refine wpQuietIn_nil ?_
          intro _ hw'
          obtain ⟨nq, hw''⟩ := hw'
          subst hw''
          clear hfnL
          have hX3 : Below X.heap.size X (X3.drewN nq) := below_drewN HB3.out _
          have HX3 := Lib.hid hX3
          have HK3 : Hid (KeepP S V (X3.drewN nq)) := HKX.out.trans (KeepP.below hX3)
          have HJ4 : Hid (J (pre0 ++ hereL T s.toList k i t ++ pre.flatMap (downL T s.toList k f i t)) (X3.drewN nq)) := stabP_below' HJ.out HJ3.out hX3
          have HO4 : Hid (OwnN (X3.drewN nq) B0 (.slice (some ⟨g3, 0, none⟩) (s.size + 1) cap3) (rowR s.toList (c :: t))) := ownBelow HO3.out (below_drewN (Below.refl _ _) _)
          have hX4s : X.heap.size ≤ (X3.drewN nq).heap.size := hX3.size
          have w0 := z0
          rw [← World.cell?_drewN X3 nq] at z0 z1 z2 z3
          clear hX3 w0 HO3 HB3 HLE HNX
          generalize X3.drewN nq = X4 at HX3 HK3 HJ4 HO4 hX4s z0 z1 z2 z3 ⊢
          by_cases hlt : k < (ln : Int)
          · have hdn : Hid (downL T s.toList k f i t c = []) := by show _ = _; unfold downL; rw [HLN.out, if_pos hlt]
            gi_wp2
            refine ⟨keepsBelow _ HX3.out, KeepP.below HX3.out, ?_, HK2X.out.trans (KeepP.below HX3.out)⟩
            rw [List.flatMap_append, List.flatMap_cons, List.flatMap_nil, hdn.out, List.append_nil, List.append_nil]
            exact HJ4.out
          · have hdn : Hid (downL T s.toList k f i t c = walkL T s.toList k f ((childF T i c).getD 0) (c :: t)) := by show _ = _; unfold downL; rw [HLN.out, if_neg hlt]
            have hle : (ln : Int) ≤ k := by omega
            have hc : (kidOf (T[i]).kids c).isSome = true := (mem_keysS _ c).1 (by rw [HKS.out]; simp)
            obtain ⟨ch, hch⟩ := Option.isSome_iff_exists.1 hc
            have hcf : childF T i c = some ch := by unfold childF; rw [hgetD]; exact hch
            have hwf := HWF.out.2.1 i c ch hcf
            have hdn2 : Hid (downL T s.toList k f i t c = walkL T s.toList k f ch (c :: t)) := by show _ = _; rw [hdn.out, hcf]; rfl
            have IHC := Lib.hid (IH.out ch (c :: t) g3 cap3 (pre0 ++ hereL T s.toList k i t ++ pre.flatMap (downL T s.toList k f i t)) (more.flatMap (downL T s.toList k f i t) ++ rest) X4 hwf.2 (by omega) (by rw [List.length_cons]; omega) (HTV.out.keepP HS.out HK3.out) HO4.out (by omega) HJ4.out
              (by rw [HL.out, walkL_succ, hgetD, HKS.out, List.flatMap_append, List.flatMap_cons, hdn2.out]; simp only [List.append_assoc]))
            have HCH := Lib.hid hch
            rw [hch, Option.getD_some]
            clear hch hc hcf
            gi_wp2
            refine ⟨trivial, ?_⟩
            refine (callsIn_wide.2 (callsIn_wide.1 IHC.out)).mono ?_
            rintro e X5 ⟨hk5, ⟨rfl, hj5⟩ | ⟨rfl, p, hp1, hp2⟩⟩
            · have HK5 := Lib.hid hk5
              have HJ5 := Lib.hid hj5
              clear hk5 hj5
              gi_wp2
              have hk6 : KeepP S X X5 := (KeepP.below HX3.out).trans HK5.out
              refine ⟨keepP_from HS.out (by omega) hk6, hk6.mono (fun _ _ h => h.1), ?_, HK2X.out.trans hk6⟩
              rw [List.flatMap_append, List.flatMap_cons, List.flatMap_nil, hdn2.out, List.append_nil, ← List.append_assoc]
              exact HJ5.out
            · have HK5 := Lib.hid hk5
              have ob := HOB.out X5 (HK3.out.trans hk5)
              have HOB5 := Lib.hid ob
              have o0 := cellB ob (j := 0) rfl
              have o1 := freeB ob (j := 0)
              have HP := Lib.hid (And.intro hp1 hp2)
              clear hk5 ob hp1 hp2
              gi_wp2
              have hk6 : KeepP S X X5 := (KeepP.below HX3.out).trans HK5.out
              have hce : (X5.setCell ⟨W.heap.size + 1 + 1, 0, none⟩ (.bool false)).cell? ⟨W.heap.size + 1 + 1, 0, none⟩ = some (.bool false) := by
                have := World.cell?_setCell_same' X5 ⟨W.heap.size + 1 + 1, 0, none⟩ (.bool false) (by rw [o0]; rfl)
                simpa using this
              refine ⟨⟨by have := hk6.size; simpa [World.setCell] using this, fun q o hq ho hc => ?_⟩, ⟨by have := hk6.size; simpa [World.setCell] using this, fun q o ho hq => ?_, hk6.os, hk6.tape, hk6.output⟩, rfl, ⟨p, HP.out.1, HJX.out _ _ _ HP.out.2 (keepOwn_set HOB5.out (by omega) (by decide) _)⟩, hce, ((HKW.out.trans HK3.out).trans HK5.out).setOut (by omega) _⟩
              · exact (Below.heap_setCell X5 ⟨W.heap.size + 1 + 1, 0, none⟩ _ q (by show q ≠ W.heap.size + 1 + 1; omega)).trans ((keepP_from HS.out (B := V2.heap.size) (by omega) hk6).same q o hq ho hc)
              · exact (Below.heap_setCell X5 ⟨W.heap.size + 1 + 1, 0, none⟩ _ q hq.2.2).trans (hk6.same q o ho hq.1)
        case done =>
          rintro D xs Y hD rfl ⟨hj, hk⟩ hK
          have HKY : Hid (KeepP S V Y) := HK2.out.trans hk
          have ob := HOB.out Y HKY.out
          have HOBY := Lib.hid ob
          have o0 := cellB ob (j := 0) rfl
          have o1 := freeB ob (j := 0)
          have HJY := Lib.hid hj
          have HKD := Lib.hid hK
          clear hj hk ob hK
          gi_wp2
          rw [Exit.noGoto_ret]
          have hce : (Y.setCell ⟨W.heap.size + 1 + 1, 0, none⟩ (.bool true)).cell? ⟨W.heap.size + 1 + 1, 0, none⟩ = some (.bool true) := by
            have := World.cell?_setCell_same' Y ⟨W.heap.size + 1 + 1, 0, none⟩ (.bool true) (by rw [o0]; rfl)
            simpa using this
          have hKD2 : (Y.setCell ⟨W.heap.size + 1 + 1, 0, none⟩ (.bool true)).heap[D]? = some (.deferred (some [])) := (Below.heap_setCell Y ⟨W.heap.size + 1 + 1, 0, none⟩ _ D (by show D ≠ W.heap.size + 1 + 1; omega)).trans HKD.out
          refine ⟨by simp, .inl ⟨_, _, rfl, run_takeDeferred hKD2, ?_⟩⟩
          have hce2 : ((Y.setCell ⟨W.heap.size + 1 + 1, 0, none⟩ (.bool true)).putObj D (.deferred none)).cell? ⟨W.heap.size + 1 + 1, 0, none⟩ = some (.bool true) := (World.cell?_of_block (w := Y.setCell ⟨W.heap.size + 1 + 1, 0, none⟩ (.bool true)) (World.putObj_heap_other (by show W.heap.size + 1 + 1 ≠ D; omega))).trans hce
          refine ⟨_, results_cellB rfl _ _ rfl hce2, ((HKW.out.trans HKY.out).setOut (by omega) _).putOut (by omega) _, .inl ⟨rfl, ?_⟩⟩
          rw [walkL_succ, hgetD, ← List.append_assoc]
          exact HJ.out _ _ _ (HJ.out _ _ _ HJY.out (keepOwn_set HOBY.out (by omega) (by decide) _)) (keepOwn_put _ hKD2 rfl (by omega))
        case stop =>
          rintro D c pre Y hD - ⟨rfl, ⟨p, hp1, hp2⟩, h4, h5⟩ hK
          gi_wp2
          rw [Exit.noGoto_ret]
          refine ⟨by simp, .inl ⟨_, _, rfl, run_takeDeferred hK, ?_⟩⟩
          have hce2 : (Y.putObj D (.deferred none)).cell? ⟨W.heap.size + 1 + 1, 0, none⟩ = some (.bool false) := (World.cell?_of_block (w := Y) (World.putObj_heap_other (by show W.heap.size + 1 + 1 ≠ D; omega))).trans h4
          exact ⟨_, results_cellB rfl _ _ rfl hce2, h5.putOut (by omega) _, .inr ⟨rfl, p, hp1, HJX.out _ _ _ hp2 (keepOwn_put _ hK rfl (by omega))⟩⟩
      · have HKP := Lib.hid hkp
        have HX1 := Lib.hid hx1
        have ob := HOB.out wc hkp
        have HOBw := Lib.hid ob
        have o0 := cellB ob (j := 0) rfl
        have o1 := freeB ob (j := 0)
        clear hkp hx1 ob
        gi_wp2
        rw [Exit.noGoto_ret]
        obtain ⟨p, hp1, hp2⟩ := HX1.out
        have hce : (wc.setCell ⟨W.heap.size + 1 + 1, 0, none⟩ (.bool false)).cell? ⟨W.heap.size + 1 + 1, 0, none⟩ = some (.bool false) := by
          have := World.cell?_setCell_same' wc ⟨W.heap.size + 1 + 1, 0, none⟩ (.bool false) (by rw [o0]; rfl)
          simpa using this
        exact ⟨_, results_cellB rfl _ _ rfl hce, (HKW.out.trans HKP.out).setOut (by omega) _, .inr ⟨rfl, p, hp1, HJX.out _ _ _ hp2 (keepOwn_set HOBw.out (by omega) (by decide) _)⟩⟩
end Go.Proofs.YtaakaajcpjiccaaDoor
namespace Go.Proofs.YtaakaajcpjiccaaDoor
open Go.RowKit
open Go.Proofs
open Go.Shelf

theorem SafeW.mono {S : Nat → Obj → Prop} {B B' : Nat} {mbs : List Nat} (h : SafeW S B mbs) (hB : B ≤ B') : SafeW S B' mbs := ⟨fun k o ho => h.own k o (ho.wide hB), h.trie, h.maps⟩
theorem nearWalk_any (tp : Option Addr) (s : ByteArray) (k : Int) (w : World) : Calls Tryd.prog 20 #[.pointer tp, .string s, .int .i64 k] w fun e w' =>
    e = .returned (.func (.func 35) #[] #[.pointer (some ⟨w.heap.size, 0, none⟩), .pointer (some ⟨w.heap.size + 1, 0, none⟩), .pointer (some ⟨w.heap.size + 1 + 1, 0, none⟩)]) ∧ w' = ((w.alloc (.cells #[.pointer tp] 49)).alloc (.cells #[.string s] 9)).alloc (.cells #[.int .i64 k] 3) := by
  go_enter Tryd.func20, Tryd.ntmps20
  go_wp2
  go_ret
  exact ⟨by simp, rfl⟩
set_option maxRecDepth 100000 in
set_option maxHeartbeats 2000000 in
theorem walk1_any (S : Nat → Obj → Prop) (B0 B tp tb wb kb l : Nat) (mbs : List Nat) (T : List NodeD) (s : ByteArray) (k : Int) (L : List (Nat × Nat)) (J Jx : List (Nat × Nat) → World → Prop)
    (hS : SafeW S B0 mbs) (hbx : S tb (.cells #[.pointer (some ⟨tp, 0, none⟩)] 49 (0, 0)) ∧ S wb (.cells #[.string s] 9 (0, 0)) ∧ S kb (.cells #[.int .i64 k] 3 (0, 0))) (hWF : WfT T) (hs : s.size ≤ 100000) (hJ : StabP B0 walkTs J) (hJx : StabP B0 walkTs Jx)
    (hY : ∀ pre x W1, J pre W1 → okW L pre x → YieldAt Fence.wide 0 Tryd.prog l (encW x) W1 fun e W' =>
      (e = .returned (.bool true) ∧ J (pre ++ [x]) W' ∧ KeepP S W1 W') ∨ (e = .returned (.bool false) ∧ Jx (pre ++ [x]) W' ∧ KeepP S W1 W'))
    (W : World) (hT : TrieAt W B tp mbs T) (hto : W.heap[tb]? = some (.cells #[.pointer (some ⟨tp, 0, none⟩)] 49 (0, 0))) (hwo : W.heap[wb]? = some (.cells #[.string s] 9 (0, 0))) (hko : W.heap[kb]? = some (.cells #[.int .i64 k] 3 (0, 0))) (hB0 : B0 ≤ W.heap.size) (h0 : J [] W) (hL : L = walkL T s.toList k T.length 0 []) :
    Calls Tryd.prog 35 #[.func (.yield l) #[] #[], .pointer (some ⟨tb, 0, none⟩), .pointer (some ⟨wb, 0, none⟩), .pointer (some ⟨kb, 0, none⟩)] W fun e W' => (∃ v, e = .returned v) ∧
      ((∃ xs, xs = L ∧ J xs W') ∨ (∃ pre, partW L pre ∧ Jx pre W')) := by
  have ht := cellB hto (j := 0) rfl
  have hw := cellB hwo (j := 0) rfl
  have hk := cellB hko (j := 0) rfl
  have HBO := Lib.hid (And.intro hto (And.intro hwo hko))
  have HBX := Lib.hid hbx
  clear hto hwo hko hbx
  have HST : Hid (∀ X, Below W.heap.size W X → Calls Tryd.prog 32 #[.string s] X fun e X2 => ∃ g cap, e = .returned (.slice (some ⟨g, 0, none⟩) (s.size + 1) cap) ∧ Hid (OwnN X2 B0 (.slice (some ⟨g, 0, none⟩) (s.size + 1) cap) (rowR s.toList []) ∧ Below W.heap.size W X2) ∧ X2.cell? ⟨tb, 0, none⟩ = some (.pointer (some ⟨tp, 0, none⟩)) ∧ X2.cell? ⟨wb, 0, none⟩ = some (.string s) ∧ X2.cell? ⟨kb, 0, none⟩ = some (.int .i64 k)) := fun X hX => (start_any s X hs).mono (by
    rintro e X2 ⟨v, rfl, ho, hb⟩
    obtain ⟨g, cap, hv, -⟩ := ho.row (by intro e; have := rowR_length s.toList []; rw [e] at this; simp at this)
    rw [rowR_length, size_list] at hv
    subst hv
    have hX2 := hX.trans (hb.mono hX.size)
    exact ⟨g, cap, rfl, ⟨own_base ho (Nat.le_trans hB0 hX.size), hX2⟩, cell_under ht hX2, cell_under hw hX2, cell_under hk hX2⟩)
  have HWK : Hid (∀ X g cap, Hid (OwnN X B0 (.slice (some ⟨g, 0, none⟩) (s.size + 1) cap) (rowR s.toList []) ∧ Below W.heap.size W X) → Calls Tryd.prog 36 #[.agg #[.pointer (some ⟨tp, 0, none⟩), .string s, .int .i64 k, .func (.yield l) #[] #[]], .int .i64 0, .slice (some ⟨g, 0, none⟩) (s.size + 1) cap] X fun e W' =>
      (∃ v, e = .returned v) ∧ Hid (((∃ xs, xs = L ∧ J xs W') ∨ (∃ pre, partW L pre ∧ Jx pre W'))) ∧ W'.cell? ⟨tb, 0, none⟩ = some (.pointer (some ⟨tp, 0, none⟩)) ∧ W'.cell? ⟨wb, 0, none⟩ = some (.string s) ∧ W'.cell? ⟨kb, 0, none⟩ = some (.int .i64 k)) := fun X g cap hX => by
    have h := callsIn_wide.1 (walk_in S B0 B tp l mbs T s k L J Jx hS hWF hs hJ hJx hY T.length 0 [] g cap [] [] X hWF.1 (Nat.le_refl _) (Nat.le_refl _) (hT.below hX.out.2) hX.out.1 (Nat.le_trans hB0 hX.out.2.size) (stabP_below' hJ h0 hX.out.2) (by rw [hL]; simp))
    refine h.mono ?_
    rintro e W' ⟨hkp, hend⟩
    have c1 := cellB (hkp.same _ _ (blkUnder HBO.out.1 hX.out.2) HBX.out.1) (j := 0) rfl
    have c2 := cellB (hkp.same _ _ (blkUnder HBO.out.2.1 hX.out.2) HBX.out.2.1) (j := 0) rfl
    have c3 := cellB (hkp.same _ _ (blkUnder HBO.out.2.2 hX.out.2) HBX.out.2.2) (j := 0) rfl
    rcases hend with ⟨rfl, hj⟩ | ⟨rfl, hx⟩
    · exact ⟨⟨_, rfl⟩, .inl ⟨_, rfl, by rw [hL]; simpa using hj⟩, c1, c2, c3⟩
    · exact ⟨⟨_, rfl⟩, .inr hx, c1, c2, c3⟩
  clear hS hWF hJ hJx hY hT h0 hL
  go_enter Tryd.func35, Tryd.ntmps35
  go_region_held3 (fun w' => w'.cell? ⟨tb, 0, none⟩ = some (.pointer (some ⟨tp, 0, none⟩)) ∧ w'.cell? ⟨wb, 0, none⟩ = some (.string s) ∧ w'.cell? ⟨kb, 0, none⟩ = some (.int .i64 k)) (first | ((repeat' apply And.intro) <;> assumption) | go_keep)
    (first
      | (go_at_call 32; refine (HST.out _ (by first | exact Below.refl _ _ | exact (Below.refl _ _).drew | exact below_drewN (Below.refl _ _) _)).mono ?_; rintro e X2 ⟨g, cap, rfl, hx, q1, q2, q3⟩)
      | (go_at_call 36; refine (HWK.out _ _ _ (by first | assumption | exact ⟨ownBelow hx.out.1 (below_drewN (Below.refl _ _) _), below_drewN hx.out.2 _⟩)).mono ?_; rintro e X3 ⟨⟨v, rfl⟩, hend, q4, q5, q6⟩))
  all_goals
    go_end0
    exact ⟨⟨_, rfl⟩, hend.out⟩
theorem walk_seq (m : Nat) (S : Nat → Obj → Prop) (B tp tb wb kb : Nat) (mbs : List Nat) (T : List NodeD) (s : ByteArray) (k : Int) (w : World) (hS : SafeW S (w.heap.size + 2) mbs) (hbx : S tb (.cells #[.pointer (some ⟨tp, 0, none⟩)] 49 (0, 0)) ∧ S wb (.cells #[.string s] 9 (0, 0)) ∧ S kb (.cells #[.int .i64 k] 3 (0, 0))) (hWF : WfT T) (hs : s.size ≤ 100000)
    (hT : TrieAt w B tp mbs T) (ht : w.heap[tb]? = some (.cells #[.pointer (some ⟨tp, 0, none⟩)] 49 (0, 0))) (hw : w.heap[wb]? = some (.cells #[.string s] 9 (0, 0))) (hk : w.heap[kb]? = some (.cells #[.int .i64 k] 3 (0, 0))) :
    SeqP Fence.wide m Tryd.prog 35 #[.pointer (some ⟨tb, 0, none⟩), .pointer (some ⟨wb, 0, none⟩), .pointer (some ⟨kb, 0, none⟩)] encW (KeepP S) (fun xs => xs = walkL T s.toList k T.length 0 []) (partW (walkL T s.toList k T.length 0 [])) (okW (walkL T s.toList k T.length 0 [])) walkTs w := fun l J Jx W hW hz hJ hJx hY h0 =>
  callsIn_wide.2 (walk1_any S W.heap.size B tp tb wb kb l mbs T s k _ J Jx (hS.mono hz) hbx hWF hs hJ hJx (fun pre x W1 hj ho => yield_any rfl (hY pre x W1 hj ho)) W (hT.below hW) (blkUnder ht hW) (blkUnder hw hW) (blkUnder hk hW) (Nat.le_refl _) h0 rfl)
end Go.Proofs.YtaakaajcpjiccaaDoor
