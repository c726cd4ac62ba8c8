/-
  The law AtomsEach: the walk.
-/
import Derived.Test.YtiinppicdhidhaaDoorSs

set_option linter.unusedVariables false
set_option linter.unusedSimpArgs false
namespace Go.Proofs.YtiinppicdhidhaaDoor
open Go.RowKit
open Go.Proofs
open Go.Shelf
attribute [local go_sem] Oper.semAt_some

/-- What holds ahead of round k of the first range. -/
def EaI (w W V : World) (k : Nat) (X : World) : Prop :=
  X.cell? ⟨W.heap.size + 1, 0, none⟩ = some (.int .i64 (k : Int)) ∧ X.frozen? ⟨W.heap.size + 1, 0, none⟩ = false ∧ (∀ j, j < W.heap.size + 1 → X.heap[j]? = V.heap[j]?) ∧ Below w.heap.size w X ∧ W.heap.size + 2 ≤ X.heap.size
theorem EaI.own {w W V : World} {B k : Nat} (hB : W.heap.size + 2 ≤ B) {X X' : World} {row : Option Nat} (h : EaI w W V k X) (hg : X.grownBy X' row) (hr : ∀ r, row = some r → B ≤ r ∧ ∃ o : Obj, X.heap[r]? = some o ∧ o.isCells = false) (hw : w.heap.size ≤ W.heap.size) : EaI w W V k X' := by
  obtain ⟨h1, h2, h3, h4, h5⟩ := h
  have q : ∀ k, k < W.heap.size + 2 → X'.heap[k]? = X.heap[k]? := fun k hk => blockKept hg hr (by omega) (by omega)
  exact ⟨(World.cell?_of_block (w := X) (q (W.heap.size + 1) (by omega))).trans h1, (World.frozen?_of_block (w := X) (q (W.heap.size + 1) (by omega))).trans h2, fun j hj => (q j (by omega)).trans (h3 j hj), h4.grown hg h4.size (fun r e => by have := (hr r e).1; omega), Nat.le_trans h5 hg.size⟩
theorem equal_nilA {t : TypeId} {ps rs : Array TypeId} {v : Bool} (hu : Tryd.prog.underlying t = some (.func ps rs v)) (f : Fn) (bs : Array Value) (w : World) : (Op.equal t (.func f #[] bs) .nilFunc).run Tryd.prog w = .ok false w := by
  unfold Op.equal
  obtain ⟨d, hd⟩ : ∃ d, Op.maxDepth = d + 1 := ⟨_, rfl⟩
  rw [hd]
  unfold Op.equalIn
  simp only [Sem.run_bind, run_underlying hu, Result.andThen_ok, Sem.run_pure]
theorem eql_funcA (f : Fn) (bs : Array Value) (w : World) : (binOp .eql 47 (.func f #[] bs) .nilFunc).run Tryd.prog w = .ok (.bool false) w := by
  simp [binOp, go_sem, equal_nilA Tryd.underlying47]
theorem size_drw (w : World) : w.drew.heap.size = w.heap.size := rfl
/-- What region 2 leaves: the spoilt table, boxed. -/
def EachR (w w1 : World) (how at_ nn many : Int) (text : ByteArray) (e : Exit) (a : Act) (W : World) : Prop := e = .normal ∧ ∃ (bt : Nat) (u15 u17 : Value) (ta : Option Addr) (tc : Nat) (t : List AtomD) (T : Nat → List (Int × Int)) (a2 : Option Addr) (c2 : Nat) (p : List PrefD), a = { tmps := #[turnV how at_ nn text, .int .i64 many, .pointer (some ⟨w.heap.size, 0, none⟩), undef, .pointer (some ⟨w.heap.size + 1, 0, none⟩), .bool true, .pointer (some ⟨bt, 0, none⟩), undef, undef, undef, undef, undef, undef, undef, .bool true, u15, turnV how at_ nn text, u17, undef, undef, undef, undef, undef, undef, undef, undef, undef, undef, undef, undef, undef, undef, undef, undef, undef, undef, undef, undef, undef, undef, undef, undef, undef, undef, undef, undef, undef, undef, undef, undef, undef, undef, undef, undef, undef, undef, undef, undef, undef, undef, undef, undef, undef, undef, undef, undef, undef, undef, undef, undef, undef], defers := [] } ∧ W.heap[bt]? = some (.cells #[.slice ta t.length tc, .slice a2 p.length c2] 27 (0, 0)) ∧ TabK W ta t T a2 p 168 20 10 ∧ Below w1.heap.size w1 W ∧ w1.heap.size ≤ bt
theorem each_fin1 {w w1 w2 w3 : World} {how at_ nn many : Int} {text : ByteArray} {u15 u17 : Value} {ta : Option Addr} {tc : Nat} {t : List AtomD} {T : Nat → List (Int × Int)} {a2 : Option Addr} {c2 : Nat} {p : List PrefD} (hT : TabK w3 ta t T a2 p 168 20 10) (hb2 : Below w1.drew.heap.size w1.drew w2) (hb3 : Below w2.heap.size w2 w3) : EachR w w1 how at_ nn many text .normal { tmps := #[turnV how at_ nn text, .int .i64 many, .pointer (some ⟨w.heap.size, 0, none⟩), undef, .pointer (some ⟨w.heap.size + 1, 0, none⟩), .bool true, .pointer (some ⟨w3.heap.size, 0, none⟩), undef, undef, undef, undef, undef, undef, undef, .bool true, u15, turnV how at_ nn text, u17, undef, undef, undef, undef, undef, undef, undef, undef, undef, undef, undef, undef, undef, undef, undef, undef, undef, undef, undef, undef, undef, undef, undef, undef, undef, undef, undef, undef, undef, undef, undef, undef, undef, undef, undef, undef, undef, undef, undef, undef, undef, undef, undef, undef, undef, undef, undef, undef, undef, undef, undef, undef, undef], defers := [] } (w3.alloc (.cells #[.slice ta t.length tc, .slice a2 p.length c2] 27)) := by
  have b12 : Below w1.heap.size w1 w2 := ((Below.refl w1.heap.size w1).drew).trans hb2
  have b13 : Below w1.heap.size w1 w3 := b12.trans (hb3.mono b12.size)
  exact ⟨rfl, w3.heap.size, u15, u17, ta, tc, t, T, a2, c2, p, rfl, heap_alloc_new w3 _, hT.below ((Below.refl _ _).alloc (Nat.le_refl _) _), b13.alloc b13.size _, b13.size⟩
theorem each_fin2 {w w1 w2 w3 : World} {how at_ nn many : Int} {text : ByteArray} {u15 u17 : Value} {ta : Option Addr} {tc : Nat} {t : List AtomD} {T : Nat → List (Int × Int)} {a2 : Option Addr} {c2 : Nat} {p : List PrefD} (hT : TabK w3 ta t T a2 p 168 20 10) (hb2 : Below w1.drew.heap.size w1.drew w2) (hb3 : Below (w2.alloc (.cells #[.slice none 0 0, .slice none 0 0] 27)).heap.size (w2.alloc (.cells #[.slice none 0 0, .slice none 0 0] 27)) w3) : EachR w w1 how at_ nn many text .normal { tmps := #[turnV how at_ nn text, .int .i64 many, .pointer (some ⟨w.heap.size, 0, none⟩), undef, .pointer (some ⟨w.heap.size + 1, 0, none⟩), .bool true, .pointer (some ⟨w2.heap.size, 0, none⟩), undef, undef, undef, undef, undef, undef, undef, .bool true, u15, turnV how at_ nn text, u17, undef, undef, undef, undef, undef, undef, undef, undef, undef, undef, undef, undef, undef, undef, undef, undef, undef, undef, undef, undef, undef, undef, undef, undef, undef, undef, undef, undef, undef, undef, undef, undef, undef, undef, undef, undef, undef, undef, undef, undef, undef, undef, undef, undef, undef, undef, undef, undef, undef, undef, undef, undef, undef], defers := [] } ((w3.setCell ⟨w2.heap.size, 0, none⟩ (.slice ta t.length tc)).setCell ⟨w2.heap.size, 1, none⟩ (.slice a2 p.length c2)) := by
  have b12 : Below w1.heap.size w1 w2 := ((Below.refl w1.heap.size w1).drew).trans hb2
  have b12' := b12.alloc b12.size (.cells #[.slice none 0 0, .slice none 0 0] 27)
  have b13 : Below w1.heap.size w1 w3 := b12'.trans (hb3.mono b12'.size)
  have hz : w3.heap[w2.heap.size]? = some (.cells #[.slice none 0 0, .slice none 0 0] 27 (0, 0)) := (hb3.block _ (by simp)).trans (heap_alloc_new w2 _)
  obtain ⟨h1, h2⟩ := box_told hz ta t.length tc a2 p.length c2
  exact ⟨rfl, w2.heap.size, u15, u17, ta, tc, t, T, a2, c2, p, rfl, h1, hT.box hz h2, b13.grown h2 b13.size (fun r e => by cases e; exact b12.size), b12.size⟩
theorem each_fin3 {w w1 w2 w3 : World} {how at_ nn many : Int} {text : ByteArray} {u15 u17 : Value} {ta : Option Addr} {tc : Nat} {t : List AtomD} {T : Nat → List (Int × Int)} {a2 : Option Addr} {c2 : Nat} {p : List PrefD} (hT : TabK w3 ta t T a2 p 168 20 10) (hb2 : Below (w1.drew.alloc (.cells #[.slice none 0 0, .slice none 0 0] 27)).heap.size (w1.drew.alloc (.cells #[.slice none 0 0, .slice none 0 0] 27)) w2) (hb3 : Below w2.heap.size w2 w3) : EachR w w1 how at_ nn many text .normal { tmps := #[turnV how at_ nn text, .int .i64 many, .pointer (some ⟨w.heap.size, 0, none⟩), undef, .pointer (some ⟨w.heap.size + 1, 0, none⟩), .bool true, .pointer (some ⟨w1.heap.size, 0, none⟩), undef, undef, undef, undef, undef, undef, undef, .bool true, u15, turnV how at_ nn text, u17, undef, undef, undef, undef, undef, undef, undef, undef, undef, undef, undef, undef, undef, undef, undef, undef, undef, undef, undef, undef, undef, undef, undef, undef, undef, undef, undef, undef, undef, undef, undef, undef, undef, undef, undef, undef, undef, undef, undef, undef, undef, undef, undef, undef, undef, undef, undef, undef, undef, undef, undef, undef, undef], defers := [] } ((w3.setCell ⟨w1.heap.size, 0, none⟩ (.slice ta t.length tc)).setCell ⟨w1.heap.size, 1, none⟩ (.slice a2 p.length c2)) := by
  have b11 : Below w1.heap.size w1 (w1.drew.alloc (.cells #[.slice none 0 0, .slice none 0 0] 27)) := ((Below.refl w1.heap.size w1).drew).alloc (Nat.le_refl _) _
  have b12 : Below w1.heap.size w1 w2 := b11.trans (hb2.mono b11.size)
  have b13 : Below w1.heap.size w1 w3 := b12.trans (hb3.mono b12.size)
  have hz2 : w2.heap[w1.heap.size]? = some (.cells #[.slice none 0 0, .slice none 0 0] 27 (0, 0)) := (hb2.block _ (by show w1.drew.heap.size < _; simp)).trans (heap_alloc_new w1.drew _)
  have hz : w3.heap[w1.heap.size]? = some (.cells #[.slice none 0 0, .slice none 0 0] 27 (0, 0)) := (hb3.block _ (Array.getElem?_eq_some_iff.1 hz2).1).trans hz2
  obtain ⟨h1, h2⟩ := box_told hz ta t.length tc a2 p.length c2
  exact ⟨rfl, w1.heap.size, u15, u17, ta, tc, t, T, a2, c2, p, rfl, h1, hT.box hz h2, b13.grown h2 b13.size (fun r e => by cases e; exact Nat.le_refl _), Nat.le_refl _⟩
set_option maxRecDepth 100000 in
set_option maxHeartbeats 8000000 in
theorem atomsEach_in (how at_ nn : Int) (text : ByteArray) (many : Int) (w : World) (hL : Laid w) (hN : NotesAt w) (hF : TensAt w) (htx : text.size ≤ maxLen) (hat : -9223372036854775808 ≤ at_ ∧ at_ ≤ 9223372036854775807) (hnn : -9223372036854775808 ≤ nn ∧ nn ≤ 9223372036854775807) :
    CallsIn Fence.wide 30 Tryd.prog 7 #[turnV how at_ nn text, .int .i64 many] w fun e w' => e = .returned (.bool true) ∧ Below w.heap.size w w' := by
  have HL := Lib.hid hL
  have HN := Lib.hid hN
  have HF := Lib.hid hF
  have HTX := Lib.hid htx
  clear hL hN hF htx
  refine callsIn_of_wp_marks Tryd.func7 rfl trivial ?_ rfl
  simp only [Tryd.ntmps7, List.size_toArray, List.length_cons, List.length_nil, Nat.reduceAdd, Nat.reduceSub, Array.replicate_succ, Array.replicate_zero, List.push_toArray, List.append_toArray, List.nil_append, List.cons_append]
  have hV0 : Below w.heap.size w ((w.alloc (.cells #[.int .i64 how, .int .i64 at_, .int .i64 nn, .string text] 40)).alloc (.cells #[.bool false] 4)) := ((Below.refl _ _).alloc (Nat.le_refl _) _).alloc (by simp) _
  gi_wp2
  refine ⟨trivial, ?_⟩
  refine (callsIn_wide.2 (awake_any _ (laid_below HL.out hV0) (notes_below HN.out hV0) (tens_below HF.out hV0))).mono ?_
  rintro e w1 ⟨rfl, hb1⟩
  have q0 := cell_under (cellAlloc (.cells #[.bool false] 4) (cellNew w #[.int .i64 how, .int .i64 at_, .int .i64 nn, .string text] 40 0 _ rfl)) hb1
  have q1 := cell_under (cellAlloc (.cells #[.bool false] 4) (cellNew w #[.int .i64 how, .int .i64 at_, .int .i64 nn, .string text] 40 1 _ rfl)) hb1
  have q2 := cell_under (cellAlloc (.cells #[.bool false] 4) (cellNew w #[.int .i64 how, .int .i64 at_, .int .i64 nn, .string text] 40 2 _ rfl)) hb1
  have q3 := cell_under (cellAlloc (.cells #[.bool false] 4) (cellNew w #[.int .i64 how, .int .i64 at_, .int .i64 nn, .string text] 40 3 _ rfl)) hb1
  have hB1 : w1.heap[w.heap.size + 1]? = some (.cells #[.bool false] 4 (0, 0)) := (hb1.block _ (by simp)).trans (by have := heap_alloc_new (w.alloc (.cells #[.int .i64 how, .int .i64 at_, .int .i64 nn, .string text] 40)) (.cells #[.bool false] 4); rwa [World.size_alloc] at this)
  have hz1 : w.heap.size + 2 ≤ w1.heap.size := by have := hb1.size; simp at this; omega
  have HB1 := Lib.hid (hV0.trans (hb1.mono (by simp; omega)))
  have HBB := Lib.hid hB1
  clear hb1 hB1 hV0
  gi_wp2
  have hz2 : w.heap.size < w1.heap.size := by omega
  have hlT := fun sr => tabD_length sr
  have HLT := Lib.hid hlT
  have HD : ∀ v : World, v.drew.heap.size = v.heap.size := fun _ => rfl
  clear hlT
  refine wpIn_wide.2 (Code.wp_mono (Q := EachR w w1 how at_ nn many text) ?imp ?reg)
  case reg =>
    go_region_held3 (fun w' => w'.cell? ⟨w.heap.size, 0, none⟩ = some (.int .i64 how) ∧ w'.cell? ⟨w.heap.size, 1, none⟩ = some (.int .i64 at_) ∧ w'.cell? ⟨w.heap.size, 2, none⟩ = some (.int .i64 nn) ∧ w'.cell? ⟨w.heap.size, 3, none⟩ = some (.string text)) (first | go_keep | ((repeat' apply And.intro) <;> (refine (World.cell?_setCell_far _ _ _ _ ?_).trans ((World.cell?_setCell_far _ _ _ _ ?_).trans (by assumption)) <;> (intro ee; simp at ee; omega))) | ((repeat' apply And.intro) <;> exact cellAlloc _ (by assumption)))
      (first
        | (go_at_call 11; refine (ref_any _).mono ?_; intro e w2 h2; obtain ⟨g, cr, ar2, cr2, sr, rfl, hT2, hb2⟩ := h2; obtain ⟨hc2, hf2⟩ := bcell hb2; have hz3 : w1.heap.size ≤ w2.heap.size := (by have := hb2.size; first | exact this | (simp at this; omega)); have hz4 : w.heap.size < w2.heap.size := (by omega); (try have hz7 : w1.heap.size < w2.heap.size := (by have := hb2.size; simp at this; omega)); have k0 := cell_under (p := ⟨w.heap.size, 0, none⟩) (v := .int .i64 how) (by first | (simpa using q0) | exact cellAlloc _ (by simpa using q0) | (rw [World.cell?_drew]; exact cellAlloc _ q0)) hb2; have k1 := cell_under (p := ⟨w.heap.size, 1, none⟩) (v := .int .i64 at_) (by first | (simpa using q1) | exact cellAlloc _ (by simpa using q1) | (rw [World.cell?_drew]; exact cellAlloc _ q1)) hb2; have k2 := cell_under (p := ⟨w.heap.size, 2, none⟩) (v := .int .i64 nn) (by first | (simpa using q2) | exact cellAlloc _ (by simpa using q2) | (rw [World.cell?_drew]; exact cellAlloc _ q2)) hb2; have k3 := cell_under (p := ⟨w.heap.size, 3, none⟩) (v := .string text) (by first | (simpa using q3) | exact cellAlloc _ (by simpa using q3) | (rw [World.cell?_drew]; exact cellAlloc _ q3)) hb2)
        | (go_at_call 13; refine (spoilt_any 48 20 _ _ (tabD sr) tabT _ _ presD 48 20 9 how at_ nn text _ (HLT.out sr) presD_length (by first | exact hT2 | exact hT2.below ((Below.refl _ _).alloc (Nat.le_refl _) _)) (by omega) (by omega) (by omega) HTX.out hat hnn).mono ?_; intro e w3 h3; obtain ⟨ta, tc, t, T, a2, c2, p, rfl, hT3, hb3⟩ := h3; obtain ⟨hc3, hf3⟩ := bcell hb3; have hz5 : w2.heap.size ≤ w3.heap.size := (by have := hb3.size; first | exact this | (simp at this; omega)); have hz6 : w.heap.size < w3.heap.size := (by omega); (try have hz8 : w2.heap.size < w3.heap.size := (by have := hb3.size; simp at this; omega)); have m0 := cell_under (p := ⟨w.heap.size, 0, none⟩) (v := .int .i64 how) (by first | exact k0 | exact cellAlloc _ k0 | (rw [World.cell?_drew]; exact cellAlloc _ k0)) hb3; have m1 := cell_under (p := ⟨w.heap.size, 1, none⟩) (v := .int .i64 at_) (by first | exact k1 | exact cellAlloc _ k1 | (rw [World.cell?_drew]; exact cellAlloc _ k1)) hb3; have m2 := cell_under (p := ⟨w.heap.size, 2, none⟩) (v := .int .i64 nn) (by first | exact k2 | exact cellAlloc _ k2 | (rw [World.cell?_drew]; exact cellAlloc _ k2)) hb3; have m3 := cell_under (p := ⟨w.heap.size, 3, none⟩) (v := .string text) (by first | exact k3 | exact cellAlloc _ k3 | (rw [World.cell?_drew]; exact cellAlloc _ k3)) hb3))
    all_goals first
      | exact each_fin1 hT3 hb2 hb3
      | exact each_fin2 hT3 hb2 hb3
      | exact each_fin3 hT3 hb2 hb3
  case imp =>
    rintro e a W ⟨rfl, bt, u15, u17, ta, tc, t, T, a2, c2, p, rfl, hbt, hT, hb, hle⟩
    have d0 := cell_of hbt (j := 0) rfl
    have d1 := cell_of hbt (j := 1) rfl
    have hnil := fun W' => eql_funcA (.func 27) #[.pointer (some ⟨W.heap.size, 0, none⟩)] W'
    have hrb := (hb.block (w.heap.size + 1) (by omega)).trans HBB.out
    have HBW := Lib.hid (HB1.out.trans (hb.mono HB1.out.size))
    have HBT := Lib.hid hbt
    have HTK := Lib.hid hT
    have HRB := Lib.hid hrb
    have hbl : bt < W.heap.size := (Array.getElem?_eq_some_iff.1 hbt).1
    have hsz := hb.size
    clear q0 q1 q2 q3 hbt hT hb hrb HD
    gi_wp2
    refine ⟨trivial, ?_⟩
    refine (each_in Fence.wide 29 trivial rfl ta t.length tc a2 p.length c2 W).mono ?_
    rintro e w4 ⟨rfl, rfl⟩
    gi_wp2
    obtain ⟨V, hV⟩ : ∃ V, (W.alloc (.cells #[.slice ta t.length tc, .slice a2 p.length c2] 27)).alloc (.cells #[.int .i64 0] 3) = V := ⟨_, rfl⟩
    have hVs : V.heap.size = W.heap.size + 2 := by rw [← hV]; simp
    have HWV : Hid (Below W.heap.size W V) := by rw [← hV]; exact ((Below.refl _ _).alloc (Nat.le_refl _) _).alloc (by simp) _
    have HCE : Hid (V.cell? ⟨W.heap.size, 0, none⟩ = some (.slice ta t.length tc)) := by rw [← hV]; exact cellAlloc _ (cellNew W _ _ 0 _ rfl)
    have hwW : w.heap.size ≤ W.heap.size := HBW.out.size
    have HCV : Hid (EaI w W V 0 V) := by
      refine ⟨?_, ?_, fun j hj => rfl, HBW.out.trans (HWV.out.mono HBW.out.size), by omega⟩
      · rw [← hV]; exact cellNew3 (by simp) rfl
      · rw [← hV]; simp
    rw [hV]
    have HVE := Lib.hid hV
    clear hV hnil
    have hl : t.length ≤ 10000 := by have := HTK.out.atoms; omega
    refine range_ok (F := Fence.wide) rfl (by omega) (gf := 27) (lb := #[.pointer (some ⟨W.heap.size, 0, none⟩)]) rfl trivial (enters_of Tryd.func27 (by kernel_rfl) rfl)
      ((each_seq Fence.wide 29 trivial rfl (by omega) W.heap.size [W.heap.size + 1] ta tc t hl V HCE.out (HTK.out.tab.atoms.imp id (fun ⟨b, off, h1, h2, h3⟩ => ⟨b, off, h1, range_below h2 HWV.out h3, by simp <;> omega, by omega⟩))).kp (Kp' := fun A C => KeepC [W.heap.size + 1] A C ∧ KeepsFrom (V.heap.size + 2) A C) (fun _ _ h => h.1))
      (fun h k => ⟨h.1.trans k.1, h.2.trans k.2⟩)
      (fun X o o' h hc => ⟨KeepC.putObj o' h hc, KeepsFrom.of_grownBy (grownBy_putObj' X _ o') (fun j e => by cases e; omega)⟩)
      (Below.refl _ _) (fun _ => rfl)
      (fun pre X => EaI w W V pre.length X)
      (fun c pre X => False)
      (fun s A C row hs hg hr => EaI.own (by omega) hs hg hr hwW)
      (fun c s A C row hs hg hr => hs)
      HCV.out
      (fun x a' X => ∃ bb, (W.heap.size + 2 ≤ bb ∧ ∀ (j : Nat) (v : Value), (atomL x.2)[j]? = some v → X.cell? ⟨bb, j, none⟩ = some v) ∧ a' = { tmps := #[turnV how at_ nn text, .int .i64 many, .pointer (some ⟨w.heap.size, 0, none⟩), undef, .pointer (some ⟨w.heap.size + 1, 0, none⟩), .bool true, .pointer (some ⟨bt, 0, none⟩), .func (.func 27) #[] #[.pointer (some ⟨W.heap.size, 0, none⟩)], .pointer (some ⟨W.heap.size + 1, 0, none⟩), .int .i64 (x.1 : Int), .pointer (some ⟨bb, 0, none⟩), undef, undef, undef, .bool true, u15, turnV how at_ nn text, u17, .agg #[.slice ta t.length tc, .slice a2 p.length c2], .func (.func 27) #[] #[.pointer (some ⟨W.heap.size, 0, none⟩)], .func (.func 27) #[] #[.pointer (some ⟨W.heap.size, 0, none⟩)], .bool false, .func (.func 27) #[] #[.pointer (some ⟨W.heap.size, 0, none⟩)], .int .i64 (x.1 : Int), .agg (atomL x.2).toArray, undef, undef, undef, undef, undef, undef, undef, undef, undef, undef, undef, undef, undef, undef, undef, undef, undef, undef, undef, undef, undef, undef, undef, undef, undef, undef, undef, undef, undef, undef, undef, undef, undef, undef, undef, undef, undef, undef, undef, undef, undef, undef, undef, undef, undef, undef], defers := [] })
      (fun x a' s A C row ⟨bb, ⟨h0, h1⟩, h2⟩ hg hr => ⟨bb, ⟨h0, fun j v hj => cell_kept (h1 j v hj) hg (fun r e => (hr r e).2)⟩, h2⟩) ?assign ?body ?done ?stop
    case assign =>
      rintro l2 pre ⟨i, ⟨x0, x1, x2, x3, x4, xm, xt, xb, xn, xd, xe, xa, xl, xc⟩⟩ X K hj hK
      simp only [encE, atomL] at hK ⊢
      have HJ := Lib.hid hj
      have HXW : Hid (W.heap.size + 2 ≤ X.heap.size) := hj.2.2.2.2
      clear hj
      gi_wp2
      exact hK _ _ ((KeepsOthers.alloc _ _).from _) ⟨(KeepC.refl _ _).alloc _, (KeepsOthers.alloc _ _).from _⟩ (EaI.own (B := W.heap.size + 2) (by omega) HJ.out (World.grownBy_alloc _ _ none) (fun r e => by cases e) hwW) ⟨X.heap.size, ⟨HXW.out, fun j v hj => cellNew X _ _ j _ (by rw [← hj]; rcases j with _ | _ | _ | _ | _ | _ | _ | _ | _ | _ | _ | _ | j <;> rfl)⟩, rfl⟩
    case stop =>
      rintro D c' pre X hD _ hx hk1
      exact hx.elim
    case body =>
      rintro l2 pre x a' X hj ⟨bb, ⟨hbb, hcs⟩, rfl⟩ ⟨k, hk, rfl, rfl⟩
      have hlen : (firstA t k).length = k := by simp [firstA]
      have HP : Hid ((firstA t k ++ [(k, t[k]?.getD default)]).length = k + 1) := by show _ = _; rw [List.length_append, hlen]; rfl
      rw [hlen] at hj
      have hgt : t[k]?.getD default = t[k] := by rw [List.getElem?_eq_getElem hk, Option.getD_some]
      obtain ⟨b, off, hab, hrW, hbW⟩ : ∃ b off, ta = some ⟨b, off, none⟩ ∧ W.rangeAt b off (atomsL t) ∧ b < W.heap.size := by
        rcases HTK.out.tab.atoms with h | h
        · rw [h] at hk; simp at hk
        · exact h
      subst hab
      have hXb : ∀ g o (v : Value), g < W.heap.size → W.cell? ⟨g, o, none⟩ = some v → X.cell? ⟨g, o, none⟩ = some v := fun g o v hg hv => (World.cell?_of_block (w := W) ((hj.2.2.1 g (by omega)).trans (HWV.out.block g hg))).trans hv
      have hrow : ∀ j v, (atomL t[k])[j]? = some v → X.cell? ⟨b, off + k * 12 + j, none⟩ = some v := fun j v hv => hXb b _ v hbW (atomD_range hrW k hk j v hv)
      have htt := HTK.out.tab.terms k hk
      have n0 := hj.1
      have n1 := hj.2.1
      have d0 := hXb bt 0 _ hbl (cell_of HBT.out (j := 0) rfl)
      obtain ⟨ts, hts⟩ : ∃ ts, T k = ts := ⟨_, rfl⟩
      rw [hts] at htt
      rw [hgt] at hcs HP ⊢
      generalize t[k] = y at hrow htt hcs HP ⊢
      obtain ⟨y0, y1, y2, y3, y4, ym, yt, yb, yn, yd, ye, ya, yl, yc⟩ := y
      obtain ⟨ht1, ht2, ht3⟩ := htt
      simp only at ht1 ht2
      subst ht1
      have v0 : X.cell? ⟨bb, 0, none⟩ = some (.string y0) := hcs 0 _ rfl
      have v1 : X.cell? ⟨bb, 1, none⟩ = some (.string y1) := hcs 1 _ rfl
      have v2 : X.cell? ⟨bb, 2, none⟩ = some (.string y2) := hcs 2 _ rfl
      have v3 : X.cell? ⟨bb, 3, none⟩ = some (.string y3) := hcs 3 _ rfl
      have v4 : X.cell? ⟨bb, 4, none⟩ = some (.string y4) := hcs 4 _ rfl
      have v5 : X.cell? ⟨bb, 5, none⟩ = some (.bool ym) := hcs 5 _ rfl
      have v6 : X.cell? ⟨bb, 6, none⟩ = some (.int .i64 yt) := hcs 6 _ rfl
      have v7 : X.cell? ⟨bb, 7, none⟩ = some (.int .i64 yb) := hcs 7 _ rfl
      have v8 : X.cell? ⟨bb, 8, none⟩ = some (.int .i64 yn) := hcs 8 _ rfl
      have v9 : X.cell? ⟨bb, 9, none⟩ = some (.int .i64 yd) := hcs 9 _ rfl
      have v10 : X.cell? ⟨bb, 10, none⟩ = some (.int .i64 ye) := hcs 10 _ rfl
      have v11 : X.cell? ⟨bb, 11, none⟩ = some (.slice ya ts.length yc) := hcs 11 _ rfl
      have z0 : X.cell? ⟨b, off + k * 12, none⟩ = some (.string y0) := hrow 0 _ rfl
      have z1 : X.cell? ⟨b, off + k * 12 + 1, none⟩ = some (.string y1) := hrow 1 _ rfl
      have z2 : X.cell? ⟨b, off + k * 12 + 2, none⟩ = some (.string y2) := hrow 2 _ rfl
      have z3 : X.cell? ⟨b, off + k * 12 + 3, none⟩ = some (.string y3) := hrow 3 _ rfl
      have z4 : X.cell? ⟨b, off + k * 12 + 4, none⟩ = some (.string y4) := hrow 4 _ rfl
      have z5 : X.cell? ⟨b, off + k * 12 + 5, none⟩ = some (.bool ym) := hrow 5 _ rfl
      have z6 : X.cell? ⟨b, off + k * 12 + 6, none⟩ = some (.int .i64 yt) := hrow 6 _ rfl
      have z7 : X.cell? ⟨b, off + k * 12 + 7, none⟩ = some (.int .i64 yb) := hrow 7 _ rfl
      have z8 : X.cell? ⟨b, off + k * 12 + 8, none⟩ = some (.int .i64 yn) := hrow 8 _ rfl
      have z9 : X.cell? ⟨b, off + k * 12 + 9, none⟩ = some (.int .i64 yd) := hrow 9 _ rfl
      have z10 : X.cell? ⟨b, off + k * 12 + 10, none⟩ = some (.int .i64 ye) := hrow 10 _ rfl
      have z11 : X.cell? ⟨b, off + k * 12 + 11, none⟩ = some (.slice ya ts.length yc) := hrow 11 _ rfl
      have HJ := Lib.hid hj
      have HTS : Hid (TermsIn X ya ts) := by
        rcases ht2 with h | ⟨b', off', h1, h2, h3⟩
        · exact .inl h
        · exact .inr ⟨b', off', h1, fun j v hv => hXb b' _ v h3 (h2 j v hv), by have := hj.2.2.2.2; omega⟩
      have HBB := Lib.hid hbb
      have dk : decide (t.length ≤ k) = false := by simp; omega
      have kk : (k : Int) < t.length := by omega
      have k0 : 0 ≤ (k : Int) := Int.natCast_nonneg _
      have kb : (k : Int) ≤ 10000 := by omega
      clear hj hbb hcs hlen hgt hrow ht2 hXb hts
      gi_wp2
      refine still_tail_round 6 (by kernel_rfl) (by kernel_rfl) (by kernel_rfl) ?_
      simp only [List.take_succ_cons, List.take_zero, List.drop_succ_cons, List.drop_zero]
      repeat ((with_reducible refine wpStill_step (fun K hK => ?_)); go_simp; refine hK _ ?_; clear hK K)
      refine wpStill_nil ?_
      gi_wp2
      refine ⟨trivial, ?_⟩
      have hdt : ∀ {ta : Option Addr} {us : List (Int × Int)}, TermsIn X ta us → TermsIn X.drew ta us := fun h => terms_below h ((Below.refl _ _).drew)
      refine (CallsIn.inRound l2 (callsIn_wide.2 (same_yes y0 y1 y2 y3 y4 ym yt yb yn yd ye ya yc ya yc ts X.drew (hdt HTS.out) (hdt HTS.out) ht3))).mono ?_
      rintro e Y ⟨rfl, hbY⟩
      have hby : Below X.heap.size X Y := ((Below.refl X.heap.size X).drew).trans hbY
      have m0 := cell_under n0 hby
      have m1 : Y.frozen? ⟨W.heap.size + 1, 0, none⟩ = false := (hby.frozen (p := ⟨W.heap.size + 1, 0, none⟩) (by have := HJ.out.2.2.2.2; show W.heap.size + 1 < _; omega)).trans n1
      have HBY := Lib.hid hby
      clear hbY hby n0 n1 v0 v1 v2 v3 v4 v5 v6 v7 v8 v9 v10 v11 z0 z1 z2 z3 z4 z5 z6 z7 z8 z9 z10 z11 hdt
      gi_wp2
      have hX5 := HJ.out.2.2.2.2
      have ka : KeepsFrom V.heap.size X Y := KeepsFrom.of_grownBy (grownBy_below (B := 0) HBY.out none) (fun j e => by cases e)
      have kc : KeepC [W.heap.size + 1] X Y := ⟨HBY.out.size, fun k o _ ho _ => (HBY.out.block k (Array.getElem?_eq_some_iff.1 ho).1).trans ho⟩
      obtain ⟨kd, ke⟩ := store_keeps (X := Y) (Wb := W.heap.size + 1) (B := V.heap.size) (by omega) (.int .i64 ((k : Int) + 1))
      have kf := ka.trans kd
      refine ⟨kf, ⟨kc.trans ke, keepsMono kf (by omega)⟩, ?_⟩
      show EaI w W V _ _
      rw [HP.out]
      refine ⟨by rw [World.cell?_setCell_same' _ _ _ (by rw [m0]; rfl)]; rfl, by rw [World.frozen?_setCell]; exact m1, fun j hj => ?_, (HJ.out.2.2.2.1.trans (HBY.out.mono HJ.out.2.2.2.1.size)).setCell (by show w.heap.size ≤ W.heap.size + 1; omega) _, Nat.le_trans hX5 (Nat.le_trans HBY.out.size kd.size)⟩
      exact (Below.heap_setCell Y ⟨W.heap.size + 1, 0, none⟩ _ j (by show j ≠ W.heap.size + 1; omega)).trans ((HBY.out.block j (by omega)).trans (HJ.out.2.2.1 j hj))
    case done =>
      rintro D xs X hD rfl hx hk1
      have hlen : (firstA t t.length).length = t.length := by simp [firstA]
      rw [hlen] at hx
      have HX := Lib.hid hx
      have HD1 := Lib.hid hk1
      have n0 := hx.1
      have hXb : ∀ g o (v : Value), g < W.heap.size → W.cell? ⟨g, o, none⟩ = some v → X.cell? ⟨g, o, none⟩ = some v := fun g o v hg hv => (World.cell?_of_block (w := W) ((hx.2.2.1 g (by omega)).trans (HWV.out.block g hg))).trans hv
      have e0 := hXb bt 0 _ hbl (cell_of HBT.out (j := 0) rfl)
      obtain ⟨kk, hkk, hkk2⟩ := rest_of many 60 (by omega)
      have HKK := Lib.hid hkk2
      clear hx hk1 hlen hXb hkk2 d0 d1
      gi_wp2
      refine ⟨trivial, ?_⟩
      refine (callsIn_wide.2 (rest_nat many X kk 60 (by omega) HKK.out (by omega))).mono ?_
      rintro e wx ⟨rfl, rfl⟩
      gi_wp2
      obtain ⟨V2, hV2⟩ : ∃ V2, (X.alloc (.cells #[.int .i64 (kk : Int)] 3)).alloc (.cells #[.int .i64 0] 3) = V2 := ⟨_, rfl⟩
      have hV2s : V2.heap.size = X.heap.size + 2 := by rw [← hV2]; simp
      have HXV : Hid (Below X.heap.size X V2) := by rw [← hV2]; exact ((Below.refl _ _).alloc (Nat.le_refl _) _).alloc (by simp) _
      have HKC : Hid (V2.cell? ⟨X.heap.size, 0, none⟩ = some (.int .i64 (kk : Int))) := by rw [← hV2]; exact cellAlloc _ (cellNew X _ _ 0 _ rfl)
      have hX5 := HX.out.2.2.2.2
      have hwX : w.heap.size ≤ X.heap.size := by omega
      have HCV2 : Hid (EaI w X V2 0 V2) := by
        refine ⟨?_, ?_, fun j hj => rfl, HX.out.2.2.2.1.trans (HXV.out.mono HX.out.2.2.2.1.size), by omega⟩
        · rw [← hV2]; exact cellNew3 (by simp) rfl
        · rw [← hV2]; simp
      have hWX : ∀ j, j < W.heap.size + 1 → X.heap[j]? = V.heap[j]? := HX.out.2.2.1
      have HXW : Hid (∀ j, j < W.heap.size → X.heap[j]? = W.heap[j]?) := fun j hj => (hWX j (by omega)).trans (HWV.out.block j hj)
      have HCE2 : Hid (V2.cell? ⟨W.heap.size, 0, none⟩ = some (.slice ta t.length tc)) := cell_under ((World.cell?_of_block (w := V) (hWX W.heap.size (by omega))).trans HCE.out) HXV.out
      have HSL2 : Hid (SlBxA V2 [X.heap.size + 1] ta t) := HTK.out.tab.atoms.imp id (fun ⟨b, off, h1, h2, h3⟩ => ⟨b, off, h1, fun j v hj => cell_under ((World.cell?_of_block (w := W) (HXW.out b h3)).trans (h2 j v hj)) HXV.out, by simp <;> omega, by omega⟩)
      rw [hV2]
      have HV2 := Lib.hid hV2
      clear hV2 hWX
      refine range_okskip (F := Fence.wide) rfl (by omega) (gf := 27) (lb := #[.pointer (some ⟨W.heap.size, 0, none⟩)]) rfl trivial (enters_of Tryd.func27 (by kernel_rfl) rfl)
        ((each_seq Fence.wide 29 trivial rfl (by omega) W.heap.size [X.heap.size + 1] ta tc t hl V2 HCE2.out HSL2.out).kp (Kp' := fun A C => KeepC [X.heap.size + 1] A C ∧ KeepsFrom (V2.heap.size + 2) A C) (fun _ _ h => h.1))
        (fun A => ⟨KeepC.refl _ _, KeepsFrom.refl _ _⟩) (fun h k => ⟨h.1.trans k.1, h.2.trans k.2⟩)
        (fun Y o o' h hc => ⟨KeepC.putObj o' h hc, KeepsFrom.of_grownBy (grownBy_putObj' Y _ o') (fun j e => by cases e; omega)⟩)
        (Below.refl _ _) (fun _ => rfl)
        (fun pre Y => EaI w X V2 pre.length Y ∧ pre.length ≤ kk)
        (fun c pre Y => c = .exit 2 ∧ EaI w X V2 kk Y ∧ kk < t.length)
        (fun s A C row hs hg hr => ⟨EaI.own (by omega) hs.1 hg hr hwX, hs.2⟩)
        (fun c s A C row hs hg hr => ⟨hs.1, EaI.own (by omega) hs.2.1 hg hr hwX, hs.2.2⟩)
        ⟨HCV2.out, Nat.zero_le _⟩ ?body2 ?done2 ?stop2
      case body2 =>
        rintro l2 pre x Y hj ⟨k, hk, rfl, rfl⟩
        have hlen : (firstA t k).length = k := by simp [firstA]
        have HP : Hid ((firstA t k ++ [(k, t[k]?.getD default)]).length = k + 1) := by show _ = _; rw [List.length_append, hlen]; rfl
        rw [hlen] at hj
        have g0 := hj.1.1
        have g1 := hj.1.2.1
        have k0 : Y.cell? ⟨X.heap.size, 0, none⟩ = some (.int .i64 (kk : Int)) := (World.cell?_of_block (w := V2) (hj.1.2.2.1 X.heap.size (by omega))).trans HKC.out
        have HJ := Lib.hid hj
        have hle' := hj.2
        have kb2 : (k : Int) ≤ 10000 := by omega
        have kb0 : 0 ≤ (k : Int) := Int.natCast_nonneg _
        clear hj hlen
        generalize t[k]?.getD default = y at HP ⊢
        obtain ⟨y0, y1, y2, y3, y4, ym, yt, yb, yn, yd, ye, ya, yl, yc⟩ := y
        simp only [encE, atomL]
        by_cases hke : k = kk
        · subst hke
          gi_wp2
          exact ⟨KeepsFrom.refl _ _, ⟨KeepC.refl _ _, KeepsFrom.refl _ _⟩, rfl, HJ.out.1, hk⟩
        · have d1 : ((k : Int) == (kk : Int)) = false := by simp; omega
          have d2 : (k == kk) = false := by simp; omega
          gi_wp2
          obtain ⟨kd, ke⟩ := store_keeps (X := Y) (Wb := X.heap.size + 1) (B := V2.heap.size) (by omega) (.int .i64 ((k : Int) + 1))
          refine ⟨kd, ⟨ke, keepsMono kd (by omega)⟩, ?_⟩
          show EaI w X V2 _ _ ∧ _
          rw [HP.out]
          exact ⟨⟨by rw [World.cell?_setCell_same' _ _ _ (by rw [g0]; rfl)]; rfl, by rw [World.frozen?_setCell]; exact g1, fun j hj => (Below.heap_setCell Y ⟨X.heap.size + 1, 0, none⟩ _ j (by show j ≠ X.heap.size + 1; omega)).trans (HJ.out.1.2.2.1 j hj), HJ.out.1.2.2.2.1.setCell (by show w.heap.size ≤ X.heap.size + 1; omega) _, Nat.le_trans HJ.out.1.2.2.2.2 kd.size⟩, by omega⟩
      case done2 =>
        rintro D2 xs Y hD2 rfl ⟨hy, hky⟩ hk2
        have hlen : (firstA t t.length).length = t.length := by simp [firstA]
        rw [hlen] at hy hky
        have m1 : decide ((kk : Int) < t.length) = false := by simp; omega
        have m2 : decide (kk < t.length) = false := by simp; omega
        clear hlen
        have hYX : ∀ j, j < X.heap.size → Y.heap[j]? = X.heap[j]? := fun j hj => (hy.2.2.1 j (by omega)).trans (HXV.out.block j hj)
        have g0 := hy.1
        have k0 : Y.cell? ⟨X.heap.size, 0, none⟩ = some (.int .i64 (kk : Int)) := (World.cell?_of_block (w := V2) (hy.2.2.1 X.heap.size (by omega))).trans HKC.out
        have nn0 : Y.cell? ⟨W.heap.size + 1, 0, none⟩ = some (.int .i64 (t.length : Int)) := (World.cell?_of_block (w := X) (hYX (W.heap.size + 1) (by omega))).trans n0
        have tt0 : Y.cell? ⟨bt, 0, none⟩ = some (.slice ta t.length tc) := (World.cell?_of_block (w := X) (hYX bt (by omega))).trans e0
        have hrb : Y.heap[w.heap.size + 1]? = some (.cells #[.bool false] 4 (0, 0)) := ((hYX (w.heap.size + 1) (by omega)).trans (HXW.out (w.heap.size + 1) (by omega))).trans HRB.out
        have rb0 := cell_of hrb (j := 0) rfl
        have rb1 := free_of hrb (j := 0)
        have HY := Lib.hid hy
        have HK2 := Lib.hid hk2
        have HRY := Lib.hid hrb
        have HYX := Lib.hid hYX
        clear hy hk2 hrb hYX n0 e0
        gi_wp2
        have hval : (((t.length : Int) : Int) == min (kk : Int) (t.length : Int)) = true := by simp; omega
        rw [hval]
        have hDX := (Array.getElem?_eq_some_iff.1 HD1.out).1
        have hDY := (Array.getElem?_eq_some_iff.1 HK2.out).1
        have hlY := HY.out.2.2.2.2
        have y2 : (Y.setCell ⟨w.heap.size + 1, 0, none⟩ (.bool true)).heap[D2]? = some (.deferred (some [])) := (Below.heap_setCell Y ⟨w.heap.size + 1, 0, none⟩ (.bool true) D2 (by show D2 ≠ w.heap.size + 1; omega)).trans HK2.out
        have y1 : (Y.setCell ⟨w.heap.size + 1, 0, none⟩ (.bool true)).heap[D]? = some (.deferred (some [])) := (Below.heap_setCell Y ⟨w.heap.size + 1, 0, none⟩ (.bool true) D (by show D ≠ w.heap.size + 1; omega)).trans ((HYX.out D hDX).trans HD1.out)
        have y0 : (Y.setCell ⟨w.heap.size + 1, 0, none⟩ (.bool true)).heap[w.heap.size + 1]? = some (.cells #[.bool true] 4 (0, 0)) := by rw [heap_setCell_same Y (w.heap.size + 1) 0 _ _ _ HRY.out]; rfl
        have hb0 : Below w.heap.size w (Y.setCell ⟨w.heap.size + 1, 0, none⟩ (.bool true)) := HY.out.2.2.2.1.setCell (p := ⟨w.heap.size + 1, 0, none⟩) (Nat.le_succ _) _
        generalize Y.setCell ⟨w.heap.size + 1, 0, none⟩ (.bool true) = Z at y0 y1 y2 hb0 ⊢
        have hDD : D ≠ D2 := by omega
        have y3 : (Z.putObj D2 (.deferred none)).heap[D]? = some (.deferred (some [])) := (World.putObj_heap_other hDD).trans y1
        have y4 : ((Z.putObj D2 (.deferred none)).putObj D (.deferred none)).heap[w.heap.size + 1]? = some (.cells #[.bool true] 4 (0, 0)) := (World.putObj_heap_other (by omega)).trans ((World.putObj_heap_other (by omega)).trans y0)
        have y5 := cell_of y4 (j := 0) rfl
        have hwZ := hb0.size
        refine ⟨by simp, .inl ⟨_, _, rfl, run_takeDeferred y2, ?_⟩⟩
        refine ⟨by simp, .inl ⟨_, _, rfl, run_takeDeferred y3, ?_⟩⟩
        exact ⟨.bool true, by simp [results, Tryd.results7, go_sem, y5], rfl, (hb0.grown (grownBy_putObj' Z D2 (.deferred none)) hwZ (fun r e => by cases e; omega)).grown (grownBy_putObj' _ D (.deferred none)) (by have := (grownBy_putObj' Z D2 (.deferred none)).size; omega) (fun r e => by cases e; omega)⟩
      case stop2 =>
        rintro D2 c' pre Y hD2 _ ⟨rfl, hy, hkt⟩ hk2
        have m1 : decide ((kk : Int) < t.length) = true := by simp; omega
        have m2 : decide (kk < t.length) = true := by simp; omega
        have hYX : ∀ j, j < X.heap.size → Y.heap[j]? = X.heap[j]? := fun j hj => (hy.2.2.1 j (by omega)).trans (HXV.out.block j hj)
        have g0 := hy.1
        have k0 : Y.cell? ⟨X.heap.size, 0, none⟩ = some (.int .i64 (kk : Int)) := (World.cell?_of_block (w := V2) (hy.2.2.1 X.heap.size (by omega))).trans HKC.out
        have nn0 : Y.cell? ⟨W.heap.size + 1, 0, none⟩ = some (.int .i64 (t.length : Int)) := (World.cell?_of_block (w := X) (hYX (W.heap.size + 1) (by omega))).trans n0
        have tt0 : Y.cell? ⟨bt, 0, none⟩ = some (.slice ta t.length tc) := (World.cell?_of_block (w := X) (hYX bt (by omega))).trans e0
        have hrb : Y.heap[w.heap.size + 1]? = some (.cells #[.bool false] 4 (0, 0)) := ((hYX (w.heap.size + 1) (by omega)).trans (HXW.out (w.heap.size + 1) (by omega))).trans HRB.out
        have rb0 := cell_of hrb (j := 0) rfl
        have rb1 := free_of hrb (j := 0)
        have HY := Lib.hid hy
        have HK2 := Lib.hid hk2
        have HRY := Lib.hid hrb
        have HYX := Lib.hid hYX
        clear hy hk2 hrb hYX n0 e0
        gi_wp2
        have hval : (((kk : Int) : Int) == min (kk : Int) (t.length : Int)) = true := by simp; omega
        rw [hval]
        have hDX := (Array.getElem?_eq_some_iff.1 HD1.out).1
        have hDY := (Array.getElem?_eq_some_iff.1 HK2.out).1
        have hlY := HY.out.2.2.2.2
        have y2 : (Y.setCell ⟨w.heap.size + 1, 0, none⟩ (.bool true)).heap[D2]? = some (.deferred (some [])) := (Below.heap_setCell Y ⟨w.heap.size + 1, 0, none⟩ (.bool true) D2 (by show D2 ≠ w.heap.size + 1; omega)).trans HK2.out
        have y1 : (Y.setCell ⟨w.heap.size + 1, 0, none⟩ (.bool true)).heap[D]? = some (.deferred (some [])) := (Below.heap_setCell Y ⟨w.heap.size + 1, 0, none⟩ (.bool true) D (by show D ≠ w.heap.size + 1; omega)).trans ((HYX.out D hDX).trans HD1.out)
        have y0 : (Y.setCell ⟨w.heap.size + 1, 0, none⟩ (.bool true)).heap[w.heap.size + 1]? = some (.cells #[.bool true] 4 (0, 0)) := by rw [heap_setCell_same Y (w.heap.size + 1) 0 _ _ _ HRY.out]; rfl
        have hb0 : Below w.heap.size w (Y.setCell ⟨w.heap.size + 1, 0, none⟩ (.bool true)) := HY.out.2.2.2.1.setCell (p := ⟨w.heap.size + 1, 0, none⟩) (Nat.le_succ _) _
        generalize Y.setCell ⟨w.heap.size + 1, 0, none⟩ (.bool true) = Z at y0 y1 y2 hb0 ⊢
        have hDD : D ≠ D2 := by omega
        have y3 : (Z.putObj D2 (.deferred none)).heap[D]? = some (.deferred (some [])) := (World.putObj_heap_other hDD).trans y1
        have y4 : ((Z.putObj D2 (.deferred none)).putObj D (.deferred none)).heap[w.heap.size + 1]? = some (.cells #[.bool true] 4 (0, 0)) := (World.putObj_heap_other (by omega)).trans ((World.putObj_heap_other (by omega)).trans y0)
        have y5 := cell_of y4 (j := 0) rfl
        have hwZ := hb0.size
        refine ⟨by simp, .inl ⟨_, _, rfl, run_takeDeferred y2, ?_⟩⟩
        refine ⟨by simp, .inl ⟨_, _, rfl, run_takeDeferred y3, ?_⟩⟩
        exact ⟨.bool true, by simp [results, Tryd.results7, go_sem, y5], rfl, (hb0.grown (grownBy_putObj' Z D2 (.deferred none)) hwZ (fun r e => by cases e; omega)).grown (grownBy_putObj' _ D (.deferred none)) (by have := (grownBy_putObj' Z D2 (.deferred none)).size; omega) (fun r e => by cases e; omega)⟩
theorem atomsEach_any (how at_ nn : Int) (text : ByteArray) (many : Int) (w : World) (hL : Laid w) (hN : NotesAt w) (hF : TensAt w) (htx : text.size ≤ maxLen) (hat : -9223372036854775808 ≤ at_ ∧ at_ ≤ 9223372036854775807) (hnn : -9223372036854775808 ≤ nn ∧ nn ≤ 9223372036854775807) :
    Calls Tryd.prog 7 #[turnV how at_ nn text, .int .i64 many] w fun e w' => e = .returned (.bool true) ∧ Below w.heap.size w w' := callsIn_wide.1 (atomsEach_in how at_ nn text many w hL hN hF htx hat hnn)
end Go.Proofs.YtiinppicdhidhaaDoor
