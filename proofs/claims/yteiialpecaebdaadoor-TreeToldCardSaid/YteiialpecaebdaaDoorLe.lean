/-
  The law TreeLeaves: its walk.
-/
import Derived.Test.YteiialpecaebdaaDoorNo
import Derived.Test.YteiialpecaebdaaDoorNh
set_option linter.unusedVariables false
set_option linter.unusedSimpArgs false
namespace Go.Proofs.YteiialpecaebdaaDoor
open Go.RowKit
open Go.Proofs
open Go.Shelf
open Tree
attribute [local go_sem] Oper.semAt_some

/-! What is counted. -/
def leafO (x : StepD) : Bool := x.op == 1 || x.op == 2 || x.op == 7
def twoO (x : StepD) : Bool := x.op == 3 || x.op == 4
def aloneO (x : StepD) : Bool := x.op == 7
theorem count_tree : ∀ (T : Tree), T.Wf → T.ser.countP leafO = T.ser.countP twoO + 1
  | .leaf x, h => by
    have := ops_leaf h.1 h.2
    rcases this with e | e | e <;> simp [ser, List.countP_cons, leafO, twoO, e]
  | .one x a, h => by
    have hx := ops_one h.2.1
    have ha := count_tree a h.2.2
    rcases hx with e | e <;> simp [ser, List.countP_append, List.countP_cons, leafO, twoO, e] <;> simpa [leafO, twoO] using ha
  | .two x a b, h => by
    have hx := ops_two h.2.1
    have ha := count_tree a h.2.2.1
    have hb := count_tree b h.2.2.2
    simp only [ser, List.countP_append]
    rcases hx with e | e
    · have h1 : [x].countP leafO = 0 := by simp [List.countP_cons, leafO, e]
      have h2 : [x].countP twoO = 1 := by simp [List.countP_cons, twoO, e]
      omega
    · have h1 : [x].countP leafO = 0 := by simp [List.countP_cons, leafO, e]
      have h2 : [x].countP twoO = 1 := by simp [List.countP_cons, twoO, e]
      omega
theorem selS_count (ks : List Int) (t : List StepD) : ∀ k, k ≤ t.length → (selS ks t k).length = (t.take k).countP fun x => ks.any fun o => x.op == o := by
  intro k
  induction k with
  | zero => intro _; simp [selS]
  | succ k ih =>
    intro hk
    have hlt : k < t.length := by omega
    rw [selS_succ, List.length_append, ih (by omega), List.take_add_one, List.countP_append, List.getElem?_eq_getElem hlt]
    simp only [Option.getD_some, Option.toList_some, List.countP_cons, List.countP_nil]
    split <;> simp_all
theorem syms_le (t : List StepD) : (t.countP fun x => [(2 : Int)].any fun o => x.op == o) + t.countP aloneO ≤ t.countP leafO := by
  induction t with
  | nil => simp
  | cons x t ih =>
    simp only [List.countP_cons]
    by_cases h2 : x.op = 2
    · simp [leafO, aloneO, h2] at ih ⊢; omega
    · by_cases h7 : x.op = 7
      · simp [leafO, aloneO, h7] at ih ⊢; omega
      · simp [leafO, aloneO, h2, h7] at ih ⊢; omega
theorem notes_ge (t : List StepD) : t.countP aloneO ≤ t.countP fun x => [(6 : Int), 7].any fun o => x.op == o := by
  induction t with
  | nil => simp
  | cons x t ih =>
    simp only [List.countP_cons]
    by_cases h7 : x.op = 7
    · simp [aloneO, h7] at ih ⊢; omega
    · by_cases h6 : x.op = 6
      · simp [aloneO, h6] at ih ⊢; omega
      · simp [aloneO, h6, h7] at ih ⊢; omega
theorem take_count (p : StepD → Bool) (t : List StepD) (k : Nat) (hk : k < t.length) : (t.take (k + 1)).countP p = (t.take k).countP p + (if p t[k] then 1 else 0) := by
  rw [List.take_add_one, List.countP_append, List.getElem?_eq_getElem hk]
  simp [List.countP_cons]
theorem tree_ops : ∀ (T : Tree), T.Wf → ∀ x ∈ T.ser, 1 ≤ x.op ∧ x.op ≤ 7
  | .leaf x, h => fun y hy => by
    simp only [ser, List.mem_singleton] at hy
    subst hy
    exact root_ops (T := .leaf y) h
  | .one x a, h => fun y hy => by
    simp only [ser, List.mem_append, List.mem_singleton] at hy
    rcases hy with hy | rfl
    · exact tree_ops a h.2.2 y hy
    · exact root_ops (T := .one y a) h
  | .two x a b, h => fun y hy => by
    simp only [ser, List.mem_append, List.mem_singleton] at hy
    rcases hy with (hy | hy) | rfl
    · exact tree_ops a h.2.2.1 y hy
    · exact tree_ops b h.2.2.2 y hy
    · exact root_ops (T := .two y a b) h
set_option maxHeartbeats 1000000 in
theorem symbols_in (F : Fence) (n : Nat) (h17 : F.fn 17) (h30 : F.fn 30) (hro : F.round = none) (hn : 1 ≤ n) (a : Option Addr) (len cap : Nat) (w : World) :
    CallsIn F n Tryd.prog 17 #[.slice a len cap] w fun e w' =>
      e = .returned (.func (.func 44) #[] #[.pointer (some ⟨w.heap.size + 1, 0, none⟩), .pointer (some ⟨w.heap.size + 1 + 1, 0, none⟩)]) ∧
      w' = ((w.alloc (.cells #[.int .i64 2] 3)).alloc (.cells #[.slice a len cap] 27)).alloc (.cells #[.slice (some ⟨w.heap.size, 0, none⟩) 1 1] 22) := by
  refine callsIn_of_wp Tryd.func17 rfl h17 ?_ hro
  simp only [Tryd.ntmps17, List.size_toArray, List.length_cons, List.length_nil, Nat.reduceAdd, Nat.reduceSub, Array.replicate_succ, Array.replicate_zero, List.push_toArray, List.append_toArray, List.nil_append, List.cons_append]
  gi_wp2
  refine (steps_in F (n - 1) h30 hro _ _ _ _ _ _ _).mono ?_
  rintro e w' ⟨rfl, rfl⟩
  gi_wp2
  go_ret
  simp
set_option maxHeartbeats 1000000 in
theorem notes_in (F : Fence) (n : Nat) (h18 : F.fn 18) (hro : F.round = none) (a : Option Addr) (len cap : Nat) (w : World) :
    CallsIn F n Tryd.prog 18 #[.slice a len cap] w fun e w' =>
      e = .returned (.func (.func 31) #[] #[.pointer (some ⟨w.heap.size, 0, none⟩)]) ∧ w' = w.alloc (.cells #[.slice a len cap] 27) := by
  refine callsIn_of_wp Tryd.func18 rfl h18 ?_ hro
  simp only [Tryd.ntmps18, List.size_toArray, List.length_cons, List.length_nil, Nat.reduceAdd, Nat.reduceSub, Array.replicate_succ, Array.replicate_zero, List.push_toArray, List.append_toArray, List.nil_append, List.cons_append]
  gi_wp2
  go_ret
  exact ⟨rfl, rfl⟩
theorem KeepC.setCell {bx : List Nat} {A : World} {k : Nat} (hk : k ∈ bx) (v : Value) : KeepC bx A (A.setCell ⟨k, 0, none⟩ v) :=
  ⟨(grownBy_setCell' A k v).size, fun i o hi ho _ => ((grownBy_setCell' A k v).block i (Array.getElem?_eq_some_iff.1 ho).1 (fun e => hi (by rw [Option.some.inj e]; exact hk))).trans ho⟩
theorem syms_31 {t : List StepD} (ks : List Int) (h : t.length ≤ 31) : (selS ks t t.length).length ≤ 31 := by
  rw [selS_count ks t _ (Nat.le_refl _)]
  exact Nat.le_trans List.countP_le_length (by rw [List.length_take]; omega)
theorem equal_nil {t : TypeId} {ps rs : Array TypeId} {v : Bool} (hu : Tryd.prog.underlying t = some (.func ps rs v)) (f : Fn) (bs : Array Value) (w : World) : (Op.equal t (.func f #[] bs) .nilFunc).run Tryd.prog w = .ok false w := by
  unfold Op.equal
  obtain ⟨d, hd⟩ : ∃ d, Op.maxDepth = d + 1 := ⟨_, rfl⟩
  rw [hd]
  unfold Op.equalIn
  simp only [Sem.run_bind, run_underlying hu, Result.andThen_ok, Sem.run_pure]
theorem eql_func1 (f : Fn) (bs : Array Value) (w : World) : (binOp .eql 39 (.func f #[] bs) .nilFunc).run Tryd.prog w = .ok (.bool false) w := by
  simp [binOp, go_sem, equal_nil Tryd.underlying39]
theorem eql_func2 (f : Fn) (bs : Array Value) (w : World) : (binOp .eql 42 (.func f #[] bs) .nilFunc).run Tryd.prog w = .ok (.bool false) w := by
  simp [binOp, go_sem, equal_nil Tryd.underlying42]
set_option maxRecDepth 100000 in
set_option maxHeartbeats 4000000 in
theorem leaves_in (a : Option Addr) (n c : Nat) (w : World) (hL : Laid w) (hI : IntsIn w a n c) :
    CallsIn Fence.wide 30 Tryd.prog 8 #[.slice a n c] w (TrueB w) := by
  have HL := Lib.hid hL
  have HI := Lib.hid hI
  clear hL hI
  refine callsIn_of_wp_marks Tryd.func8 rfl trivial ?_ rfl
  simp only [Tryd.ntmps8, List.size_toArray, List.length_cons, List.length_nil, Nat.reduceAdd, Nat.reduceSub, Array.replicate_succ, Array.replicate_zero, List.push_toArray, List.append_toArray, List.nil_append, List.cons_append]
  gi_wp2
  refine ⟨trivial, ?_⟩
  refine (callsIn_wide.2 (awake_any w HL.out)).mono ?_
  rintro e w1 ⟨rfl, hb1⟩
  gi_wp2
  refine ⟨trivial, ?_⟩
  refine (callsIn_wide.2 (made_any a n c w1 (HI.out.below hb1))).mono ?_
  rintro e w2 ⟨v, T, rfl, ⟨hT, hs⟩, hl, hO, hb2⟩
  have HB2 : Hid (Below w.heap.size w w2) := bel2 hb1 hb2
  obtain ⟨g, cp, rfl⟩ := form_own hO
  have HS := Lib.hid (Own.slat hO)
  have HCP : Hid (T.ser.length ≤ cp) := (own_sl hO).elim fun a' h => by
    obtain ⟨c', h1, _, h3⟩ := h
    simp only [Value.slice.injEq] at h1
    obtain ⟨-, -, rfl⟩ := h1
    exact h3
  have hrt : w2.rangeAt g 0 (stepsL T.ser) := (own_sl hO).elim fun a' h => by
    obtain ⟨c', h1, h2, _⟩ := h
    simp only [Value.slice.injEq] at h1
    obtain ⟨rfl, -, rfl⟩ := h1
    rcases h2 with h | ⟨g', o', h3, h4⟩
    · have h5 := congrArg List.length h
      have h6 := T.ser_pos
      rw [List.length_nil] at h5
      omega
    · simp only [Option.some.injEq, Addr.mk.injEq, and_true] at h3
      obtain ⟨rfl, rfl⟩ := h3
      exact h4
  have HR := Lib.hid hrt
  have HT := Lib.hid hT
  have HOPS := Lib.hid (tree_ops T hT)
  obtain ⟨t, ht⟩ : ∃ t, T.ser = t := ⟨_, rfl⟩
  rw [ht] at HR HS HOPS HCP hl ⊢
  have HTS := Lib.hid ht
  clear hO hrt hT hs hb1 hb2 ht
  gi_wp2
  gi_loopw [5, 6, 7, 8] (fun a5 a6 a7 i ws => ws = w2 ∧ ∃ k : Nat, k ≤ t.length ∧ i = .int .i64 k ∧ a5 = .int .i64 ((t.take k).countP leafO : Nat) ∧ a6 = .int .i64 ((t.take k).countP twoO : Nat) ∧ a7 = .int .i64 ((t.take k).countP aloneO : Nat))
    (fun _ _ _ i _ => t.length - (intOf i).toNat)
  case atStart => exact ⟨rfl, 0, Nat.zero_le _, rfl, by simp, by simp, by simp⟩
  case round =>
    obtain ⟨hws, k, hk, rfl, rfl, rfl, rfl⟩ := hrel
    subst hws
    by_cases hlt : k < t.length
    · have hst := step_range HR.out k hlt
      have h7 := HOPS.out t[k] (List.getElem_mem hlt)
      obtain ⟨xo, hxo⟩ : ∃ xo, t[k].op = xo := ⟨_, rfl⟩
      have s0 : wr.cell? ⟨g, k * 6, none⟩ = some (.int .i64 xo) := by rw [← hxo]; have := hst 0 _ rfl; simpa using this
      rw [hxo] at h7
      have T1 := Lib.hid (take_count leafO t k hlt)
      have T2 := Lib.hid (take_count twoO t k hlt)
      have T3 := Lib.hid (take_count aloneO t k hlt)
      have C1 : (t.take k).countP leafO ≤ 31 := Nat.le_trans List.countP_le_length (by rw [List.length_take]; omega)
      have C2 : (t.take k).countP twoO ≤ 31 := Nat.le_trans List.countP_le_length (by rw [List.length_take]; omega)
      have C3 : (t.take k).countP aloneO ≤ 31 := Nat.le_trans List.countP_le_length (by rw [List.length_take]; omega)
      have HXO := Lib.hid hxo
      clear hst hxo
      generalize (t.take k).countP leafO = c1 at T1 C1 ⊢
      generalize (t.take k).countP twoO = c2 at T2 C2 ⊢
      generalize (t.take k).countP aloneO = c3 at T3 C3 ⊢
      have hx7 : xo = 1 ∨ xo = 2 ∨ xo = 3 ∨ xo = 4 ∨ xo = 5 ∨ xo = 6 ∨ xo = 7 := by omega
      clear h7
      rcases hx7 with rfl | rfl | rfl | rfl | rfl | rfl | rfl
      all_goals
        gi_wp2
        go_roundw
        case rel => exact ⟨by first | rfl | trivial, k + 1, by omega, by simp, by rw [T1.out]; simp [leafO, HXO.out], by rw [T2.out]; simp [twoO, HXO.out], by rw [T3.out]; simp [aloneO, HXO.out]⟩
        case measure => simp [intOf]; omega
    · obtain rfl : k = t.length := by omega
      rw [List.take_length]
      gi_wp2
      refine ⟨trivial, ?_⟩
      refine (symbols_in Fence.wide 29 trivial trivial rfl (by omega) _ _ _ _).mono ?_
      rintro e w3 ⟨rfl, rfl⟩
      gi_wp2
      refine ⟨trivial, ?_⟩
      refine (notes_in Fence.wide 29 trivial rfl _ _ _ _).mono ?_
      rintro e w4 ⟨rfl, rfl⟩
      have q1 := eql_func1
      have q2 := eql_func2
      gi_wp2
      clear q1 q2
      -- the world behind both iterators' values
      obtain ⟨V, hV⟩ : ∃ V, (((wr.alloc (.cells #[.int .i64 2] 3)).alloc (.cells #[.slice (some ⟨g, 0, none⟩) t.length cp] 27)).alloc (.cells #[.slice (some ⟨wr.heap.size, 0, none⟩) 1 1] 22)).alloc (.cells #[.slice (some ⟨g, 0, none⟩) t.length cp] 27) = V := ⟨_, rfl⟩
      rw [hV]
      have hsz : V.heap.size = wr.heap.size + 1 + 1 + 1 + 1 := by rw [← hV]; simp
      have hgl : g < wr.heap.size := range_lt HR.out (by
        intro e
        have h5 := congrArg List.length e
        rw [stepsL_length] at h5
        have h6 := T.ser_pos
        rw [HTS.out] at h6
        simp at h5
        omega)
      have HWV : Hid (Below wr.heap.size wr V) := by rw [← hV]; exact ((((Below.refl _ wr).alloc (Nat.le_refl _) _).alloc (by simp) _).alloc (by simp; omega) _).alloc (by simp; omega) _
      have b0 : V.cell? ⟨wr.heap.size, 0, none⟩ = some (.int .i64 2) := by rw [← hV]; exact cellAlloc _ (cellAlloc _ (cellAlloc _ (cellNew3 rfl rfl)))
      have b1 : V.cell? ⟨wr.heap.size + 1, 0, none⟩ = some (.slice (some ⟨g, 0, none⟩) t.length cp) := by rw [← hV]; exact cellAlloc _ (cellAlloc _ (cellNew3 (by simp) rfl))
      have b2 : V.cell? ⟨wr.heap.size + 1 + 1, 0, none⟩ = some (.slice (some ⟨wr.heap.size, 0, none⟩) 1 1) := by rw [← hV]; exact cellAlloc _ (cellNew3 (by simp) rfl)
      have b3 : V.cell? ⟨wr.heap.size + 1 + 1 + 1, 0, none⟩ = some (.slice (some ⟨g, 0, none⟩) t.length cp) := by rw [← hV]; exact cellNew3 (by simp) rfl
      have HB := Lib.hid (And.intro b0 (And.intro b1 (And.intro b2 b3)))
      have HSZ := Lib.hid hsz
      clear b0 b1 b2 b3 hV
      obtain ⟨M, hM⟩ : ∃ M, wr.heap.size + 1 + 1 + 1 + 1 = M := ⟨_, rfl⟩
      have hMV : V.heap.size = M := by rw [HSZ.out, hM]
      rw [hM]
      have hUs : (V.alloc (.cells #[.int .i64 0] 3)).heap.size = M + 1 := by simp [hMV]
      have hSA : StepsAt (V.alloc (.cells #[.int .i64 0] 3)) [M] (wr.heap.size + 1) (wr.heap.size + 1 + 1) t [2] := by
        refine ⟨⟨g, 0, cp, cellAlloc _ HB.out.2.1, rangeAt_below HR.out (HWV.out.alloc HWV.out.size _) hgl, by simp; omega, by omega⟩, ⟨wr.heap.size, cellAlloc _ HB.out.2.2.1, fun m hm => ?_, by simp; omega⟩, by simp; omega⟩
        obtain rfl : m = 0 := by simp at hm; omega
        exact cellAlloc _ HB.out.1
      have h31 := syms_31 [2] hl
      have hcn : (V.alloc (.cells #[.int .i64 0] 3)).cell? ⟨M, 0, none⟩ = some (.int .i64 0) := cellNew3 hMV.symm rfl
      have hfr : (V.alloc (.cells #[.int .i64 0] 3)).frozen? ⟨M, 0, none⟩ = false := by rw [← hMV]; exact (Boxed.new V 3 (.int .i64 0)).frozen
      refine range_skip (F := Fence.wide) rfl (by omega) (gf := 44) (lb := #[.pointer (some ⟨wr.heap.size + 1, 0, none⟩), .pointer (some ⟨wr.heap.size + 1 + 1, 0, none⟩)]) rfl trivial (enters_of Tryd.func44 (by kernel_rfl) rfl)
        ((steps_seq Fence.wide 29 trivial rfl (by omega) _ _ [M] t [2] (by omega) (by simp) _ hSA).kp (Kp' := fun A C => KeepC [M] A C ∧ KeepsFrom (M + 1 + 2) A C) (fun _ _ h => h.1))
        (fun A => ⟨KeepC.refl _ _, KeepsFrom.refl _ _⟩) (fun h k => ⟨h.1.trans k.1, h.2.trans k.2⟩)
        (fun X o o' h hc => ⟨KeepC.putObj o' h hc, KeepsFrom.of_grownBy (grownBy_putObj' X _ o') (fun j e => by cases e; omega)⟩)
        (Below.refl _ _) (fun _ => rfl)
        (fun pre X => (X.cell? ⟨M, 0, none⟩ = some (.int .i64 (pre.length : Int)) ∧ X.frozen? ⟨M, 0, none⟩ = false) ∧ Below M V X)
        (fun _ _ _ => False)
        (OwnFrom.and (Own.from (fun s A C row hs hg hr => ⟨cell_kept hs.1 hg hr, (frozen_kept hs.1 hg hr).trans hs.2⟩) _) (ownFrom_below (by omega) (by omega)))
        (fun _ _ _ _ _ hs _ _ => hs)
        ⟨⟨hcn, hfr⟩, (Below.refl _ _).alloc (by omega) _⟩ ?body ?done ?stop
      case body =>
        rintro l2 pre ⟨i, ⟨xo, xp, xa, xn, xm, xt⟩⟩ X ⟨⟨hc, hf⟩, hb⟩ hlen
        have hp : pre.length ≤ 31 := by omega
        simp only [encS, stepArr]
        gi_wp2
        refine ⟨(KeepsOthers.setCell _ _ _).from _, ⟨KeepC.setCell (by simp) _, (KeepsOthers.setCell _ _ _).from _⟩, ⟨?_, by rw [World.frozen?_setCell]; exact hf⟩, hb.setCell (p := ⟨M, 0, none⟩) (Nat.le_refl _) _⟩
        have := World.cell?_setCell_same' X ⟨M, 0, none⟩ (.int .i64 ((pre.length : Int) + 1)) (by rw [hc]; rfl)
        simpa using this
      case done =>
        rintro D xs X hD rfl ⟨⟨hc, hf⟩, hb⟩ hK
        obtain ⟨c1, hc1⟩ : ∃ c1, (selS [2] t t.length).length = c1 := ⟨_, rfl⟩
        rw [hc1] at hc
        have HC1 := Lib.hid hc1
        have hXM : M + 1 ≤ X.heap.size := by
          have h5 := World.block_lt_of_cell? X ⟨M, 0, none⟩ hc
          exact h5
        have HB0 := Lib.hid (rangeAt_below (rangeAt_below HR.out HWV.out hgl) hb (by omega : g < M))
        have HBx := Lib.hid ((hb.cell (p := ⟨wr.heap.size + 1 + 1 + 1, 0, none⟩) (by show wr.heap.size + 1 + 1 + 1 < M; omega)).trans HB.out.2.2.2)
        have hDX : D < X.heap.size := (Array.getElem?_eq_some_iff.1 hK).1
        have HXB := Lib.hid hb
        have HDX := Lib.hid hDX
        have h31t : (selT t t.length).length ≤ 31 := by have := syms_31 [6, 7] hl; simpa [selT] using this
        clear hc1 hb h31 hcn hfr hSA
        gi_wp2
        have hcn : (X.alloc (.cells #[.int .i64 0] 3)).cell? ⟨X.heap.size, 0, none⟩ = some (.int .i64 0) := cellNew3 rfl rfl
        have hfr : (X.alloc (.cells #[.int .i64 0] 3)).frozen? ⟨X.heap.size, 0, none⟩ = false := (Boxed.new X 3 (.int .i64 0)).frozen
        have hXs : (X.alloc (.cells #[.int .i64 0] 3)).heap.size = X.heap.size + 1 := by simp
        refine range_skip (F := Fence.wide) rfl (by omega) (gf := 31) (lb := #[.pointer (some ⟨wr.heap.size + 1 + 1 + 1, 0, none⟩)]) rfl trivial (enters_of Tryd.func31 (by kernel_rfl) rfl)
          (notes_seq 29 (by omega) (wr.heap.size + 1 + 1 + 1) g 0 cp [X.heap.size] t (by omega) (by simp; omega) (X.alloc (.cells #[.int .i64 0] 3)) (by omega) (fun x hx => by simp at hx; omega) (cellAlloc _ HBx.out) (fun j v hj => cellAlloc _ (HB0.out j v hj)))
          (fun A => ⟨KeepC.refl _ _, KeepsFrom.refl _ _⟩) (fun h k => ⟨h.1.trans k.1, h.2.trans k.2⟩)
          (fun Y o o' h hc => ⟨KeepC.putObj o' h hc, KeepsFrom.of_grownBy (grownBy_putObj' Y _ o') (fun j e => by cases e; omega)⟩)
          (Below.refl _ _) (fun _ => rfl)
          (fun pre Y => ((Y.cell? ⟨X.heap.size, 0, none⟩ = some (.int .i64 (pre.length : Int)) ∧ Y.frozen? ⟨X.heap.size, 0, none⟩ = false) ∧ Y.cell? ⟨M, 0, none⟩ = some (.int .i64 (c1 : Int))) ∧ Y.heap[D]? = some (.deferred (some [])) ∧ Below M V Y)
          (fun _ _ _ => False)
          (OwnFrom.and (Own.from (fun s A C row hs hg hr => ⟨⟨cell_kept hs.1.1 hg hr, (frozen_kept hs.1.1 hg hr).trans hs.1.2⟩, cell_kept hs.2 hg hr⟩) _) (OwnFrom.and (fun s A C row hs hg hr => far_same hg (fun r e => (hr r e).1) (by omega) hs) (ownFrom_below (by omega) (by omega))))
          (fun _ _ _ _ _ hs _ _ => hs)
          ⟨⟨⟨hcn, hfr⟩, cellAlloc _ hc⟩, (heap_alloc_old X _ D hDX).trans hK, HXB.out.alloc (by omega) _⟩ ?body2 ?done2 ?stop2
        case body2 =>
          rintro l2 pre x Y ⟨⟨⟨hc', hf'⟩, hcm⟩, hd', hb'⟩ hlen
          have hp : pre.length ≤ 31 := by omega
          simp only [encT]
          gi_wp2
          have hne : M ≠ X.heap.size := by omega
          refine ⟨(KeepsOthers.setCell _ _ _).from _, ⟨KeepC.setCell (by simp) _, (KeepsOthers.setCell _ _ _).from _⟩, ⟨⟨?_, by rw [World.frozen?_setCell]; exact hf'⟩, ?_⟩, ?_, hb'.setCell (p := ⟨X.heap.size, 0, none⟩) (by show M ≤ X.heap.size; omega) _⟩
          · have := World.cell?_setCell_same' Y ⟨X.heap.size, 0, none⟩ (.int .i64 ((pre.length : Int) + 1)) (by rw [hc']; rfl)
            simpa using this
          · exact (World.cell?_setCell_far _ _ _ _ (by show X.heap.size ≠ M; omega)).trans hcm
          · exact ((grownBy_setCell' Y X.heap.size _).block D (Array.getElem?_eq_some_iff.1 hd').1 (fun e => by have h5 := Option.some.inj e; have h6 := HDX.out; omega)).trans hd'
        case done2 =>
          rintro D2 ys Y hD2 rfl ⟨⟨⟨hc', hf'⟩, hcm⟩, hd', hb'⟩ hK2
          have HBY : Hid (Below w.heap.size w Y) := bel2 (bel2 HB2.out HWV.out) (by rw [hMV]; exact hb')
          have HSY : Hid (SlAt Y (some ⟨g, 0, none⟩) t) := .inr ⟨g, 0, rfl, rangeAt_below (rangeAt_below HR.out HWV.out hgl) hb' (by omega)⟩
          have hsb : soundB t = true := (soundB_iff t).2 ⟨by omega, T, HT.out, HTS.out.symm⟩
          have k1 := count_tree T HT.out
          rw [HTS.out] at k1
          have k2 := syms_le t
          have k3 := notes_ge t
          have k4 : c1 = t.countP fun x => [(2 : Int)].any fun o => x.op == o := by have := selS_count [2] t t.length (Nat.le_refl _); rw [List.take_length] at this; rw [← this, HC1.out]
          have k5 : (selT t t.length).length = t.countP fun x => [(6 : Int), 7].any fun o => x.op == o := by have := selS_count [6, 7] t t.length (Nat.le_refl _); rw [List.take_length] at this; rw [← this]; simp [selT]
          have k6 : t.countP leafO ≤ 31 := Nat.le_trans List.countP_le_length hl
          have k7 : t.countP aloneO ≤ 31 := Nat.le_trans List.countP_le_length hl
          rw [← k4] at k2
          rw [← k5] at k3
          clear k4 k5
          generalize List.countP leafO t = ca at k1 k2 k6 ⊢
          generalize List.countP twoO t = cb at k1 ⊢
          generalize List.countP aloneO t = cc at k2 k3 k7 ⊢
          generalize (selT t t.length).length = c2 at k3 h31t hc' ⊢
          have HHD := Lib.hid (And.intro hd' hK2)
          have HDS : Hid (D < Y.heap.size ∧ D2 < Y.heap.size) := ⟨(Array.getElem?_eq_some_iff.1 hd').1, (Array.getElem?_eq_some_iff.1 hK2).1⟩
          clear hd' hK2 hb'
          gi_wp2
          refine ⟨trivial, ?_⟩
          refine (callsIn_wide.2 (sound_any (some ⟨g, 0, none⟩) cp t Y (HL.out.below HBY.out) HSY.out (by omega))).mono ?_
          rintro e Y1 ⟨rfl, hy1⟩
          rw [hsb]
          have hcA := cell_below hc' hy1
          have hcB := cell_below hcm hy1
          have HY1 := Lib.hid hy1
          clear hy1 hc' hcm
          gi_wp2
          refine ⟨trivial, ?_⟩
          refine (callsIn_wide.2 (Nest_any (some ⟨g, 0, none⟩) cp t Y1 (HL.out.below (bel2 HBY.out HY1.out)) (HSY.out.below HY1.out) (by omega) HCP.out)).mono ?_
          rintro e Y2 ⟨r1, rfl, hr1, hy2⟩
          have hnb := nestT_bound T
          rw [HTS.out] at hnb
          have hq1 : r1 = nestT T := nest_of HT.out (by rw [HTS.out]; omega) (by rw [HTS.out]; exact hr1)
          subst hq1
          have HY2 : Hid (Below Y.heap.size Y Y2) := bel2 HY1.out hy2
          have HN := Lib.hid hr1
          generalize nestT T = d at hnb HN ⊢
          clear hr1 hy2
          gi_wp2
          refine ⟨trivial, ?_⟩
          refine (callsIn_wide.2 (Nest_any (some ⟨g, 0, none⟩) cp t Y2 (HL.out.below (bel2 HBY.out HY2.out)) (HSY.out.below HY2.out) (by omega) HCP.out)).mono ?_
          rintro e Y3 ⟨r2, rfl, hr2, hy3⟩
          obtain rfl := nestS_fun HN.out hr2
          have HY3 : Hid (Below Y.heap.size Y Y3) := bel2 HY2.out hy3
          clear hr2 hy3
          gi_wp2
          have hK2 : Y3.heap[D2]? = some (.deferred (some [])) := (HY3.out.block D2 HDS.out.2).trans HHD.out.2
          have hd' : Y3.heap[D]? = some (.deferred (some [])) := (HY3.out.block D HDS.out.1).trans HHD.out.1
          have hDD : D ≠ D2 := by have := HDX.out; omega
          have hd2 : (Y3.putObj D2 (.deferred none)).heap[D]? = some (.deferred (some [])) := (World.putObj_heap_other hDD).trans hd'
          have hw0 : w.heap.size ≤ M := by have h5 := HB2.out.size; omega
          have hbe : Below w.heap.size w ((Y3.putObj D2 (.deferred none)).putObj D (.deferred none)) := ((bel2 HBY.out HY3.out).trans (belowK_b (w := w) (Nat.le_refl _) Y3 D2 _ (.deferred none) (by omega) hK2 rfl rfl)).trans (belowK_b (w := w) (Nat.le_refl _) _ D _ (.deferred none) (by omega) hd2 rfl rfl)
          refine ⟨by simp, .inl ⟨_, _, rfl, run_takeDeferred hK2, ?_⟩⟩
          refine ⟨by simp, .inl ⟨_, _, rfl, run_takeDeferred hd2, ?_⟩⟩
          exact ⟨_, results_tmp rfl _ _ _, rfl, hbe⟩
        case stop2 =>
          rintro D2 c' pre Y hD2 _ h _
          exact h.elim
      case stop =>
        rintro D c' pre X hD _ h _
        exact h.elim
theorem treeLeaves_any (a : Option Addr) (n c : Nat) (w : World) (hL : Laid w) (hI : IntsIn w a n c) :
    Calls Tryd.prog 8 #[.slice a n c] w fun e w' => e = .returned (.bool true) ∧ Below w.heap.size w w' := callsIn_wide.1 (leaves_in a n c w hL hI)
end Go.Proofs.YteiialpecaebdaaDoor
