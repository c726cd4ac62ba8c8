/-
  symbol: what is left behind a prefix; what a symbol is found to be.
-/
import Derived.Test.YtaakaajcpjiccaaDoorNa17
import Derived.Test.YtaakaajcpjiccaaDoorShl
set_option linter.unusedVariables false
set_option linter.unusedSimpArgs false
namespace Go.Proofs.YtaakaajcpjiccaaDoor
open Go.RowKit
open Go.Proofs

theorem pres_row {w : World} {g o : Nat} (h : w.rangeAt g o (presV tabPres)) (i : Nat) (hi : i < 20) : w.rangeAt g (o + i * 6) (preList i) := by
  intro j v hj
  have h2 := h (i * 6 + j) v
  rw [← Nat.add_assoc] at h2
  apply h2
  have hl : i < tabPres.length := by simpa [tabPres] using hi
  have hd := flat_drop preV 6 tabPres (fun p hp => by simp [preV, pres_codes p hp]) i hl
  have e : tabPres[i] = preAt i := by simp [preAt, List.getD_eq_getElem?_getD, hl]
  rw [e, preV_list i hi] at hd
  rw [← hd, List.getElem?_take] at hj
  split at hj
  · rw [List.getElem?_drop] at hj
    exact hj
  · cases hj
theorem preCode_cell (k m : Nat) (hm : m < 5) : (preList k)[m]? = some (.string ⟨(preCodeAt k m).toArray⟩) := by
  rcases m with _ | _ | _ | _ | _ | m <;> first | rfl | omega
theorem size_PrefB : (Tryd.prog.info? 145).map (·.size) = some 6 := by kernel_rfl
theorem cellB {W : World} {b j : Nat} {cs : Array Value} {ty : TypeId} {fr : Nat × Nat} {v : Value} (h : W.heap[b]? = some (.cells cs ty fr)) (hv : cs[j]? = some v) : W.cell? ⟨b, j, none⟩ = some v := by
  simp [World.cell?, h, hv]
theorem freeB {W : World} {b j : Nat} {cs : Array Value} {ty : TypeId} (h : W.heap[b]? = some (.cells cs ty (0, 0))) : W.frozen? ⟨b, j, none⟩ = false := by
  simp [World.frozen?, h]
theorem two_new (w : World) (a b : Array Value) (s t : TypeId) : ((w.alloc (.cells a s)).alloc (.cells b t)).heap[w.heap.size]? = some (.cells a s (0, 0)) ∧ ((w.alloc (.cells a s)).alloc (.cells b t)).heap[w.heap.size + 1]? = some (.cells b t (0, 0)) := by
  refine ⟨(heap_alloc_old _ _ (by simp)).trans (heap_alloc_new w _), ?_⟩
  have := heap_alloc_new (w.alloc (.cells a s)) (.cells b t)
  rwa [World.size_alloc] at this
theorem blkUnder {w W : World} {b : Nat} {o : Obj} (h : w.heap[b]? = some o) (hb : Below w.heap.size w W) : W.heap[b]? = some o := (hb.block b (Array.getElem?_eq_some_iff.1 h).1).trans h
theorem blkAlloc {w : World} {b : Nat} {o : Obj} (o' : Obj) (h : w.heap[b]? = some o) : (w.alloc o').heap[b]? = some o := (heap_alloc_old w o' (Array.getElem?_eq_some_iff.1 h).1).trans h
theorem blkNew (w : World) (cs : Array Value) (t : TypeId) : (w.alloc (.cells cs t)).heap[w.heap.size]? = some (.cells cs t (0, 0)) := heap_alloc_new w _
/-- What the closure tells: some number, and whether there is an atom. -/
def RestOk (w : World) (m : Nat) (s : List UInt8) (k : Nat) (e : Ending) (w' : World) : Prop := ∃ r : Int, e = .returned (.tuple #[.int .i64 r, .bool (preF m s k).isSome]) ∧ (∀ a, preF m s k = some a → r = a) ∧ Below w.heap.size w w'
theorem preF_none1 {m : Nat} {s : List UInt8} {k : Nat} (h : (preCodeAt k m).isPrefixOf s = false) : preF m s k = none := by
  unfold preF
  rw [h]
  simp
theorem preF_none2 {m : Nat} {s : List UInt8} {k : Nat} (h : (preCodeAt k m).isEmpty = true) : preF m s k = none := by
  unfold preF
  rw [if_pos h]
theorem preF_eq {m : Nat} {s : List UInt8} {k : Nat} (h1 : (preCodeAt k m).isEmpty = false) (h2 : (preCodeAt k m).isPrefixOf s = true) : preF m s k = (atomF m (s.drop (preCodeAt k m).length)).filter fun a => (rowAt a).metric := by
  unfold preF
  rw [h1, h2]
  simp
theorem drop_same {s c : List UInt8} (hp : c.isPrefixOf s = true) : (s.drop c.length == s) = c.isEmpty := by
  rw [List.isPrefixOf_iff_prefix] at hp
  obtain ⟨r, rfl⟩ := hp
  rw [List.drop_left]
  cases c with
  | nil => simp
  | cons x c =>
    rw [Bool.eq_iff_iff]
    simp only [beq_iff_eq, List.isEmpty_cons, Bool.false_eq_true, iff_false]
    intro h
    have := congrArg List.length h
    simp only [List.length_append, List.length_cons] at this
    omega
set_option maxRecDepth 100000 in
set_option maxHeartbeats 4000000 in
theorem rest_any (g c1 g2 c2 m k : Nat) (ss : Nat → Value) (s : ByteArray) (Sb Bb : Nat) (w : World) (hm : m < 5) (hk : k < 20) (hB : BookIn w g g2 ss) (hS : w.cell? ⟨Sb, 0, none⟩ = some (.string s)) (h0 : w.cell? ⟨Bb, 0, none⟩ = some (.slice (some ⟨g, 0, none⟩) 48 c1)) (h1 : w.cell? ⟨Bb, 1, none⟩ = some (.slice (some ⟨g2, 0, none⟩) 20 c2)) (h2 : w.cell? ⟨Bb, 2, none⟩ = some (.int .i64 ((m : Int) + 1))) (hSl : Sb < w.heap.size) (hBl : Bb < w.heap.size) :
    Calls Tryd.prog 86 #[.agg (preList k).toArray, .pointer (some ⟨Sb, 0, none⟩), .pointer (some ⟨Bb, 0, none⟩)] w (RestOk w m s.toList k) := by
  have hcell := cellNew w (preList k).toArray 145 m _ (by simpa using preCode_cell k m hm)
  have wA : Below w.heap.size w (w.alloc (.cells (preList k).toArray 145)) := (Below.refl _ _).alloc (Nat.le_refl _) _
  have HBA := Lib.hid (hB.below wA)
  have hS2 := cell_under hS wA
  have h02 := cell_under h0 wA
  have h12 := cell_under h1 wA
  have h22 := cell_under h2 wA
  have hwl : w.heap.size < (w.alloc (.cells (preList k).toArray 145)).heap.size := by simp
  obtain ⟨c, hc⟩ : ∃ c, preCodeAt k m = c := ⟨_, rfl⟩
  rw [hc] at hcell
  have HC := Lib.hid hc
  have WA := Lib.hid wA
  have v1 : IntKind.i64.wrap (m : Int) = (m : Int) := IntWalk.i64_in _ (by omega)
  have v2 : (m : Int) < 5 := by omega
  have v3 : 0 ≤ (m : Int) := by omega
  clear hc wA hS h0 h1 h2
  simp only [preList] at hcell hS2 h02 h12 h22 HBA WA hwl ⊢
  go_enter Tryd.func86, Tryd.ntmps86
  go_wp2_with fail
  generalize w.alloc (.cells #[Value.string ⟨(preCodeAt k 0).toArray⟩, .string ⟨(preCodeAt k 1).toArray⟩, .string ⟨(preCodeAt k 2).toArray⟩, .string ⟨(preCodeAt k 3).toArray⟩, .string ⟨(preCodeAt k 4).toArray⟩, .int .i64 (preAt k).ten] 145) = W at hcell hS2 h02 h12 h22 HBA WA hwl ⊢
  go_quiet ((go_at_call 87; exact Calls.quiet_of_same (Tryd.strings_CutPrefix s ⟨c.toArray⟩ _)))
  have WN := Lib.hid (WA.out.trans ((below_drewN (Below.refl W.heap.size W) nq).mono WA.out.size))
  have HBN := Lib.hid (HBA.out.below (below_drewN (Below.refl W.heap.size W) nq))
  have hSN : (W.drewN nq).cell? ⟨Sb, 0, none⟩ = some (.string s) := by simpa using hS2
  have h0N : (W.drewN nq).cell? ⟨Bb, 0, none⟩ = some (.slice (some ⟨g, 0, none⟩) 48 c1) := by simpa using h02
  have h1N : (W.drewN nq).cell? ⟨Bb, 1, none⟩ = some (.slice (some ⟨g2, 0, none⟩) 20 c2) := by simpa using h12
  have h2N : (W.drewN nq).cell? ⟨Bb, 2, none⟩ = some (.int .i64 ((m : Int) + 1)) := by simpa using h22
  clear hcell hS2 h02 h12 h22 v1 HBA WA
  generalize W.drewN nq = X at WN HBN hSN h0N h1N h2N ⊢
  have hsd : s.data.toList = s.toList := by rw [ByteArray.toList_eq]
  obtain ⟨lf, hlf⟩ : ∃ lf : ByteArray, (⟨(Lib.trimPrefix s.data.toList c).toArray⟩ : ByteArray) = lf := ⟨_, rfl⟩
  rw [hlf]
  have HLF := Lib.hid hlf
  cases hp : Lib.hasPrefix s.data.toList c with
  | false =>
    have HN : Hid (preF m s.toList k = none) := preF_none1 (by rw [HC.out, ← hsd]; exact hp)
    clear hlf hsd
    go_wp2_with fail
    go_ret2
    exact ⟨-1, by rw [HN.out]; rfl, (fun a h => by rw [HN.out] at h; cases h), WN.out⟩
  | true =>
    have hpf : c.isPrefixOf s.toList = true := by rw [← hsd]; exact hp
    have HLL : Hid (lf.toList = s.toList.drop c.length) := by
      show _ = _
      rw [← hlf, Lib.trimPrefix, if_pos hp, hsd, ByteArray.toList_eq]
    have hds := drop_same hpf
    cases hce : c.isEmpty with
    | true =>
      have HN : Hid (preF m s.toList k = none) := preF_none2 (by rw [HC.out]; exact hce)
      have heq : (lf.toList == s.toList) = true := by rw [HLL.out, hds]; exact hce
      clear hlf hsd hpf hds
      go_wp2_with fail
      go_ret2
      exact ⟨-1, by rw [HN.out]; rfl, (fun a h => by rw [HN.out] at h; cases h), WN.out⟩
    | false =>
      have HN : Hid (preF m s.toList k = (atomF m lf.toList).filter fun a => (rowAt a).metric) := by
        show _ = _
        rw [HLL.out, preF_eq (by rw [HC.out]; exact hce) (by rw [HC.out]; exact hpf), HC.out]
      have heq : (lf.toList == s.toList) = false := by rw [HLL.out, hds]; exact hce
      clear hlf hsd hpf hds
      go_wp2_with fail
      refine (bookAtom_any g c1 g2 c2 m ss lf _ hm HBN.out).mono ?_
      rintro e w1 ⟨rfl, hb1⟩
      have HB1 := Lib.hid hb1
      have k0 := cell_under h0N hb1
      have HBW1 := Lib.hid (HBN.out.below hb1)
      clear hb1
      cases ha : atomF m lf.toList with
      | none =>
        have HN2 : Hid (preF m s.toList k = none) := by show _ = _; rw [HN.out, ha]; rfl
        simp only [orI]
        clear ha
        go_wp2_with fail
        go_quiet (fail)
        go_wp2_with fail
        go_ret2
        exact ⟨-1, by rw [HN2.out]; rfl, (fun a h => by rw [HN2.out] at h; cases h), below_drewN (WN.out.trans (HB1.out.mono WN.out.size)) _⟩
      | some a =>
        have ha48 := (atomF_some ha).1
        have hmet := atomD_range HBW1.out.atoms a (by rw [tabD_length]; exact ha48) 5 (.bool (rowAt a).metric) (by rw [tabD_getE]; rfl)
        rw [Nat.zero_add] at hmet
        obtain ⟨mt, hmt⟩ : ∃ b, (rowAt a).metric = b := ⟨_, rfl⟩
        rw [hmt] at hmet
        have HN2 : Hid (preF m s.toList k = if mt then some a else none) := by
          show _ = _
          rw [HN.out, ha, Option.filter_some, hmt]
        simp only [orI]
        have hane : ((a : Int) != -1) = true := by simp <;> omega
        have hane2 : ((a : Int) == -1) = false := by simp <;> omega
        have ha49 : (a : Int) < 48 := by omega
        have ha0 : 0 ≤ (a : Int) := by omega
        clear ha hmt
        go_wp2_with fail
        go_quiet (fail)
        go_wp2_with fail
        go_ret2
        refine ⟨a, ?_, fun b h => ?_, below_drewN (WN.out.trans (HB1.out.mono WN.out.size)) _⟩
        · rw [HN2.out]; cases mt <;> rfl
        · rw [HN2.out] at h
          cases mt
          · cases h
          · cases h; rfl
/-! find. -/
def findV : Option (Int × Nat) → Value
  | some (p, a) => .tuple #[.int .i64 p, .int .i64 (a : Int), .bool true]
  | none => .tuple #[.int .i64 (-1), .int .i64 (-1), .bool false]
/-- No prefix of the first k fits. -/
def NoPre (m : Nat) (s : List UInt8) (k : Nat) : Prop := ∀ j, j < k → (preF m s j).isSome = false
theorem findF_atom {m : Nat} {s : List UInt8} {a : Nat} (h : atomF m s = some a) : findF m s = some (-1, a) := by
  unfold findF; rw [h]
theorem findF_pre {m : Nat} {s : List UInt8} {k a : Nat} (h : atomF m s = none) (hk : k < 20) (hn : NoPre m s k) (hp : preF m s k = some a) : findF m s = some ((k : Int), a) := by
  unfold findF
  rw [h]
  have : (List.range 20).find? (fun p => (preF m s p).isSome) = some k := by
    rw [List.find?_range_eq_some]
    exact ⟨by rw [hp]; rfl, by simpa using hk, fun j hj => by rw [hn j hj]; rfl⟩
  simp only [this, hp]
  rfl
theorem findF_none {m : Nat} {s : List UInt8} (h : atomF m s = none) (hn : NoPre m s 20) : findF m s = none := by
  unfold findF
  rw [h]
  have : (List.range 20).find? (fun p => (preF m s p).isSome) = none := by
    rw [List.find?_eq_none]
    intro j hj
    rw [hn j (by simpa using hj)]
    simp
  rw [this]
set_option maxRecDepth 100000 in
set_option maxHeartbeats 4000000 in
theorem find_any (g c1 g2 c2 m : Nat) (ss : Nat → Value) (s : ByteArray) (w : World) (hm : m < 5) (hB : BookIn w g g2 ss) :
    Calls Tryd.prog 69 #[bookV g c1 g2 c2 m, .string s] w fun e w' => e = .returned (findV (findF m s.toList)) ∧ Below w.heap.size w w' := by
  have w2 : Below w.heap.size w ((w.alloc (.cells #[.slice (some ⟨g, 0, none⟩) 48 c1, .slice (some ⟨g2, 0, none⟩) 20 c2, .int .i64 ((m : Int) + 1)] 91)).alloc (.cells #[.string s] 9)) := ((Below.refl _ _).alloc (Nat.le_refl _) _).alloc (by simp) _
  have W2 := Lib.hid w2
  have HB2 := Lib.hid (hB.below w2)
  have hb0 := (two_new w #[.slice (some ⟨g, 0, none⟩) 48 c1, .slice (some ⟨g2, 0, none⟩) 20 c2, .int .i64 ((m : Int) + 1)] #[.string s] 91 9)
  have HK := Lib.hid hb0
  clear hB w2 hb0
  go_enter Tryd.func69, Tryd.ntmps69
  go_wp2_with fail
  generalize (w.alloc (.cells #[.slice (some ⟨g, 0, none⟩) 48 c1, .slice (some ⟨g2, 0, none⟩) 20 c2, .int .i64 ((m : Int) + 1)] 91)).alloc (.cells #[.string s] 9) = V at W2 HB2 HK ⊢
  have b0 := cellB HK.out.1 (j := 0) rfl
  have b1 := cellB HK.out.1 (j := 1) rfl
  have b2 := cellB HK.out.1 (j := 2) rfl
  have bs := cellB HK.out.2 (j := 0) rfl
  go_step3
  go_wp2_with fail
  refine (bookAtom_any g c1 g2 c2 m ss s _ hm HB2.out).mono ?_
  rintro e w1 ⟨rfl, hb1⟩
  have HB1 := Lib.hid hb1
  clear hb1
  cases ha : atomF m s.toList with
  | some a =>
    have HF := Lib.hid (findF_atom ha)
    have hane : ((a : Int) != -1) = true := by simp <;> omega
    have hane2 : ((a : Int) == -1) = false := by simp <;> omega
    simp only [orI]
    clear ha
    go_wp2_with fail
    rw [Exit.noGoto_ret]
    go_ret3
    exact ⟨by rw [HF.out]; rfl, W2.out.trans (HB1.out.mono W2.out.size)⟩
  | none =>
    have HA := Lib.hid ha
    have HBK := Lib.hid (HB2.out.below HB1.out)
    have HK1 : Hid (w1.heap[w.heap.size]? = some _ ∧ w1.heap[w.heap.size + 1]? = some _) := ⟨blkUnder HK.out.1 HB1.out, blkUnder HK.out.2 HB1.out⟩
    have W1 := Lib.hid (W2.out.trans (HB1.out.mono W2.out.size))
    have d0 := cellB HK1.out.1 (j := 0) rfl
    have d1 := cellB HK1.out.1 (j := 1) rfl
    simp only [orI]
    clear ha b0 b1 b2 bs
    go_wp2_with fail
    go_step3
    go_wp2_with fail
    go_loopw [4, 5, 6, 9, 10, 11, 12, 24, 29] (fun r1 r2 r3 _ _ _ _ i _ wr => ∃ k : Nat, k ≤ 20 ∧ i = .int .i64 (k : Int) ∧ r1 = .int .i64 (-1) ∧ r2 = .int .i64 (-1) ∧ r3 = .bool false ∧ NoPre m s.toList k ∧ Below w1.heap.size w1 wr) (fun _ _ _ _ _ _ _ i _ _ => 20 - (intOf i).toNat)
    case atStart => exact ⟨0, by omega, rfl, rfl, rfl, rfl, fun j h => by omega, Below.refl _ _⟩
    case round =>
      obtain ⟨k, hk, rfl, rfl, rfl, rfl, hn, hbw⟩ := hrel
      have HN := Lib.hid hn
      have HBW := Lib.hid hbw
      clear hn hbw
      by_cases hlt : k < 20
      · have hk20 : (k : Int) < 20 := by omega
        have HROW := Lib.hid (range_below (pres_row HBK.out.pres k hlt) HBW.out HBK.out.g2lt)
        have hbl := HBK.out.g2lt
        rw [Nat.zero_add] at HROW
        unfold preList at HROW
        go_wp2_with (first | (refine wpList_load_mid rfl 145 _ rfl g2 _ rfl _ _ HROW.out Tryd.underlying145 rfl size_PrefB ?_) | fail)
        generalize hWB : wr.alloc (.cells _ 145) = WB
        have HWB : Hid (Below w1.heap.size w1 WB) := by
          show _
          rw [← hWB]
          exact HBW.out.alloc HBW.out.size _
        clear hWB
        have hs := cellB (blkUnder HK1.out.2 HWB.out) (j := 0) rfl
        have f0 := cellB (blkUnder HK1.out.1 HWB.out) (j := 0) rfl
        have f1 := cellB (blkUnder HK1.out.1 HWB.out) (j := 1) rfl
        have f2 := cellB (blkUnder HK1.out.1 HWB.out) (j := 2) rfl
        have l1 := (Array.getElem?_eq_some_iff.1 (blkUnder HK1.out.1 HWB.out)).1
        have l2 := (Array.getElem?_eq_some_iff.1 (blkUnder HK1.out.2 HWB.out)).1
        have hrest := rest_any g c1 g2 c2 m k ss s (w.heap.size + 1) w.heap.size WB hm hlt (HBK.out.below HWB.out) hs f0 f1 f2 l2 l1
        unfold preList at hrest
        refine hrest.mono ?_
        rintro e w3 ⟨r, rfl, hr, hb3⟩
        have HB3 := Lib.hid (HWB.out.trans (hb3.mono HWB.out.size))
        clear hb3 hrest hs f0 f1 f2 l1 l2
        cases hp : preF m s.toList k with
        | none =>
          have HP := Lib.hid hp
          simp only [Option.isSome_none]
          clear hr hp
          go_wp2_with fail
          refine ⟨⟨k + 1, by omega, by simp, rfl, rfl, rfl, fun j h => ?_, HB3.out⟩, by simp only [intOf]; omega⟩
          by_cases hj : j = k
          · subst hj; rw [HP.out]; rfl
          · exact HN.out j (by omega)
        | some a =>
          obtain rfl := hr a hp
          have HF := Lib.hid (findF_pre HA.out hlt HN.out hp)
          simp only [Option.isSome_some]
          clear hr hp
          go_wp2_with fail
          rw [Exit.noGoto_ret]
          go_ret3
          exact ⟨by rw [HF.out]; rfl, W1.out.trans (HB3.out.mono W1.out.size)⟩
      · obtain rfl : k = 20 := by omega
        have HF := Lib.hid (findF_none HA.out HN.out)
        go_wp2_with fail
        rw [Exit.noGoto_ret]
        go_ret3
        exact ⟨by rw [HF.out]; rfl, W1.out.trans (HBW.out.mono W1.out.size)⟩
end Go.Proofs.YtaakaajcpjiccaaDoor
