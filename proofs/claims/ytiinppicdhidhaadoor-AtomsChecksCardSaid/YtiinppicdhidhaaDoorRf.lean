/-
  The reference's table: the contracts of drachmref05's atom, first, rest, prefixes.
-/
import Derived.Test.YtiinppicdhidhaaDoorTb
set_option linter.unusedVariables false
set_option linter.unusedSimpArgs false
namespace Go.Proofs.YtiinppicdhidhaaDoor
open Go.RowKit
open Go.Proofs

/-- As 'opsNew', with calls of functions that make new memory alone. -/
def opsNewC (P : Program) (B : Nat) (c : FuncId → Array Value → Option (Value × List Obj)) (a : Act) : List Oper → List (Nat × Value) → List Obj → Option (List (Nat × Value) × List Obj)
  | [], env, n => some (env, n)
  | o :: r, env, n =>
    match o.guard, o.dst with
    | none, some d =>
      match semNew P B (execOp (look env a) o) n with
      | some (.value v, n') => if d < a.tmps.size then opsNewC P B c a r ((d, v) :: env) n' else none
      | some (.enter f args, n') =>
        match c f args with
        | some (v, m) => if d < a.tmps.size then opsNewC P B c a r ((d, v) :: env) (n' ++ m) else none
        | none => none
      | _ => none
    | _, _ => none
def Makes (P : Program) (c : FuncId → Array Value → Option (Value × List Obj)) : Prop := ∀ f args v m, c f args = some (v, m) → ∀ w, Calls P f args w fun e w' => e = .returned v ∧ w' = news w m
theorem news_news (w : World) (n m : List Obj) : news (news w n) m = news w (n ++ m) := by simp [news]
theorem wpList_opsNewC {P : Program} {c : FuncId → Array Value → Option (Value × List Obj)} (hc : Makes P c) {ops : Array Oper} {Q : Exit → Act → World → Prop} {rest : List Oper} {w : World} {a : Act} {N : List Obj} :
    ∀ {l : List Oper} {env env' : List (Nat × Value)} {n : List Obj} {a' : Act}, opsNewC P w.heap.size c a l env n = some (env', N) → Same env a a' →
      (∀ a'', Same env' a a'' → wpList P ops Q rest a'' (news w N)) → wpList P ops Q (l ++ rest) a' (news w n) := by
  intro l
  induction l with
  | nil => intro env env' n a' h hs k; simp [opsNewC] at h; obtain ⟨rfl, rfl⟩ := h; exact k _ hs
  | cons o r ih =>
    intro env env' n a' h hs k
    unfold opsNewC at h
    split at h
    · rename_i d hg hd
      split at h
      · rename_i v n' he
        split at h
        · rename_i hlt
          have hrun := semNew_run he
          refine wpList_plain hg fun K hK => ?_
          unfold Oper.wp
          rw [hs.fun_eq, hrun, Oper.upon_value]
          refine hK _ _ ?_
          rw [hd]
          exact ih h (hs.put d v hlt) k
        · simp at h
      · rename_i f args n' he
        split at h
        · rename_i v m hcf
          split at h
          · rename_i hlt
            have hrun := semNew_run he
            refine wpList_plain hg fun K hK => ?_
            unfold Oper.wp
            rw [hs.fun_eq, hrun, Oper.upon_enter]
            refine (hc f args v m hcf _).mono ?_
            rintro e w' ⟨rfl, rfl⟩
            refine hK _ _ ?_
            rw [hd, news_news]
            exact ih h (hs.put d v hlt) k
          · simp at h
        · simp at h
      · simp at h
    · simp at h

theorem news_alloc (w : World) (n : List Obj) (o : Obj) : (news w n).alloc o = news w (n ++ [o]) := by
  show ({ news w n with heap := (news w n).heap.push o } : World) = _
  simp [news]
theorem alloc_two (w : World) (a b : Obj) : (w.alloc a).alloc b = news w [a, b] := by
  have h := news_nil w
  conv => lhs; rw [← h]
  rw [news_alloc, news_alloc]
  rfl
/-! The function 'atom'. -/
set_option maxHeartbeats 400000 in
theorem ref_atom_calls (s0 s1 s2 s3 s4 : ByteArray) (m : Bool) (tag base num den ten : Int) (a : Option Addr) (l c : Nat) (w : World) :
    Calls Tryd.prog 28 #[.agg #[.string s0, .string s1, .string s2, .string s3, .string s4], .bool m, .int .i64 tag, .int .i64 base, .int .i64 num, .int .i64 den, .int .i64 ten, .slice a l c] w fun e w' =>
      e = .returned (.agg #[.string s0, .string s1, .string s2, .string s3, .string s4, .bool m, .int .i64 tag, .int .i64 base, .int .i64 num, .int .i64 den, .int .i64 ten, .slice a l c]) ∧
      w' = news w [.cells #[.string s0, .string s1, .string s2, .string s3, .string s4] 30, .cells #[.string s0, .string s1, .string s2, .string s3, .string s4, .bool m, .int .i64 tag, .int .i64 base, .int .i64 num, .int .i64 den, .int .i64 ten, .slice a l c] 33] := by
  go_enter Tryd.func28, Tryd.ntmps28
  go_wp2
  exact bodyPost_ret (v := .agg #[.string s0, .string s1, .string s2, .string s3, .string s4, .bool m, .int .i64 tag, .int .i64 base, .int .i64 num, .int .i64 den, .int .i64 ten, .slice a l c]) (by simp [results, Tryd.results28, go_sem]) rfl ⟨rfl, alloc_two _ _ _⟩
/-- What the callees of 'first' and 'rest' make. -/
def callee (f : FuncId) (args : Array Value) : Option (Value × List Obj) :=
  if f = 28 then
    match args.toList with
    | [.agg cs, .bool m, .int .i64 tag, .int .i64 base, .int .i64 num, .int .i64 den, .int .i64 ten, .slice a l c] =>
      match cs.toList with
      | [.string s0, .string s1, .string s2, .string s3, .string s4] =>
        some (.agg #[.string s0, .string s1, .string s2, .string s3, .string s4, .bool m, .int .i64 tag, .int .i64 base, .int .i64 num, .int .i64 den, .int .i64 ten, .slice a l c], [.cells #[.string s0, .string s1, .string s2, .string s3, .string s4] 30, .cells #[.string s0, .string s1, .string s2, .string s3, .string s4, .bool m, .int .i64 tag, .int .i64 base, .int .i64 num, .int .i64 den, .int .i64 ten, .slice a l c] 33])
      | _ => none
    | _ => none
  else none
theorem callee_makes : Makes Tryd.prog callee := by
  intro f args v m h w
  unfold callee at h
  split at h
  · rename_i hf
    subst hf
    split at h
    · rename_i cs m tag base num den ten a l c hargs
      split at h
      · rename_i s0 s1 s2 s3 s4 hcs
        simp only [Option.some.injEq, Prod.mk.injEq] at h
        obtain ⟨rfl, rfl⟩ := h
        have e1 : args = #[.agg cs, .bool m, .int .i64 tag, .int .i64 base, .int .i64 num, .int .i64 den, .int .i64 ten, .slice a l c] := Array.toList_inj.1 hargs
        have e2 : cs = #[.string s0, .string s1, .string s2, .string s3, .string s4] := Array.toList_inj.1 hcs
        rw [e1, e2]
        exact ref_atom_calls _ _ _ _ _ _ _ _ _ _ _ _ _ _ _
      · simp at h
    · simp at h
  · simp at h
def atomRV (s : Value) (i : Nat) (r : RowD) : List Value := r.codes.map strV ++ [.bool r.metric, intV r.tag, intV (baseAt i), intV r.num, intV r.den, intV r.ten, s]
def refK (k : Nat) : List (Int × Int) → Nat
  | [] => k + 2
  | _ => k + 3
def refObjs (s : Value) (i : Nat) (r : RowD) : List Obj :=
  (match r.terms with
    | [] => []
    | ts => [.cells (termsV ts).toArray 37]) ++ [.cells (r.codes.map strV).toArray 30, .cells (atomRV s i r).toArray 33]
def refN (B : Nat) : Nat → Nat → List RowD → List Obj
  | _, _, [] => []
  | k, i, r :: rs => refObjs (termSl B k r.terms) i r ++ refN B (refK k r.terms) (i + 1) rs
def refV (B : Nat) : Nat → Nat → List RowD → List Value
  | _, _, [] => []
  | k, i, r :: rs => atomRV (termSl B k r.terms) i r ++ refV B (refK k r.terms) (i + 1) rs
def act (n : Nat) : Act := ⟨Array.replicate n undef, []⟩
theorem first_body : Tryd.f20.body = some (.seq (.region 0 (regs Tryd.f20 0) false) (.seq (.region 1 (regs Tryd.f20 1) false) .ret)) := by kernel_rfl
theorem rest_body : Tryd.f21.body = some (.seq (.region 0 (regs Tryd.f21 0) false) (.seq (.region 1 (regs Tryd.f21 1) false) .ret)) := by kernel_rfl
theorem prefixes_body : Tryd.f22.body = some (.seq (.region 0 (regs Tryd.f22 0) false) (.seq (.region 1 (regs Tryd.f22 1) false) .ret)) := by kernel_rfl
def envNil : List (Nat × Value) := [(0, .slice none 0 0)]
theorem first_ev0 (B : Nat) : opsNewC Tryd.prog B callee (act 92) (regs Tryd.f20 0).toList [] [] = some (envNil, []) := by kernel_rfl
theorem first_ev (B : Nat) : (opsNewC Tryd.prog B callee (act 92) (regs Tryd.f20 1).toList envNil []).map (fun r => (r.1.lookup 0, r.2)) =
    some (some (.slice (some ⟨B + (refN B 0 0 (tabRows.take 24)).length, 0, none⟩) 24 24), refN B 0 0 (tabRows.take 24) ++ [.cells (refV B 0 0 (tabRows.take 24)).toArray 33]) := by kernel_rfl
theorem rest_ev0 (B : Nat) : opsNewC Tryd.prog B callee (act 100) (regs Tryd.f21 0).toList [] [] = some (envNil, []) := by kernel_rfl
theorem rest_ev (B : Nat) : (opsNewC Tryd.prog B callee (act 100) (regs Tryd.f21 1).toList envNil []).map (fun r => (r.1.lookup 0, r.2)) =
    some (some (.slice (some ⟨B + (refN B 0 24 (tabRows.drop 24)).length, 0, none⟩) 24 24), refN B 0 24 (tabRows.drop 24) ++ [.cells (refV B 0 24 (tabRows.drop 24)).toArray 33]) := by kernel_rfl
theorem pres_ev0 (B : Nat) : opsNewC Tryd.prog B callee (act 42) (regs Tryd.f22 0).toList [] [] = some (envNil, []) := by kernel_rfl
theorem pres_ev (B : Nat) : (opsNewC Tryd.prog B callee (act 42) (regs Tryd.f22 1).toList envNil []).map (fun r => (r.1.lookup 0, r.2)) =
    some (some (.slice (some ⟨B, 0, none⟩) 20 20), [.cells (presV tabPres).toArray 35]) := by kernel_rfl
theorem making {f : FuncId} {fn : Func} {n : Nat} {o0 o1 : Array Oper} {e0 : List (Nat × Value)} {v : Value} {N : List Obj} {w : World} (hf : Tryd.prog.funcs[f]? = some fn) (hn : fn.ntmps = n) (hb : fn.body = some (.seq (.region 0 o0 false) (.seq (.region 1 o1 false) .ret))) (hr : fn.results = #[.tmp 0])
    (h0 : opsNewC Tryd.prog w.heap.size callee (act n) o0.toList [] [] = some (e0, [])) (h1 : (opsNewC Tryd.prog w.heap.size callee (act n) o1.toList e0 []).map (fun r => (r.1.lookup 0, r.2)) = some (some v, N)) :
    Calls Tryd.prog f #[] w fun e w' => e = .returned v ∧ w' = news w N := by
  refine calls_of_wp hf hb ?_
  rw [hn]
  have e0' : ({ tmps := #[] ++ Array.replicate (n - (#[] : Array Value).size) undef, defers := [] } : Act) = act n := by simp [act]
  rw [e0']
  refine wp_seq_k fun K hK => wp_region_list ?_
  have hnn := news_nil w
  rw [← hnn]
  rw [show o0.toList = o0.toList ++ [] from (List.append_nil _).symm]
  refine wpList_opsNewC callee_makes h0 ⟨fun x => by cases x <;> simp [look, Act.eval], rfl, rfl⟩ fun a1 s1 => ?_
  refine wpList_nil ?_
  show K a1 _
  refine hK _ _ ?_
  refine wp_seq_k fun K2 hK2 => wp_region_list ?_
  obtain ⟨⟨env, N'⟩, hev, hm⟩ := Option.map_eq_some_iff.1 h1
  simp only [Prod.mk.injEq] at hm
  obtain ⟨l0, rfl⟩ := hm
  rw [show o1.toList = o1.toList ++ [] from (List.append_nil _).symm]
  refine wpList_opsNewC callee_makes hev s1 fun a2 s2 => ?_
  refine wpList_nil ?_
  show K2 _ _
  refine hK2 _ _ ?_
  refine wp_ret ?_
  refine bodyPost_ret (results_tmp hr _ _ _) s2.defers ⟨?_, rfl⟩
  have := s2.eval (.tmp 0)
  simp only [Act.eval, look, l0, Option.getD_some] at this
  rw [this]
theorem first_calls (w : World) : Calls Tryd.prog 20 #[] w fun e w' =>
    e = .returned (.slice (some ⟨w.heap.size + (refN w.heap.size 0 0 (tabRows.take 24)).length, 0, none⟩) 24 24) ∧ w' = news w (refN w.heap.size 0 0 (tabRows.take 24) ++ [.cells (refV w.heap.size 0 0 (tabRows.take 24)).toArray 33]) :=
  making Tryd.func20 Tryd.ntmps20 first_body (by kernel_rfl) (first_ev0 _) (first_ev _)
theorem rest_calls (w : World) : Calls Tryd.prog 21 #[] w fun e w' =>
    e = .returned (.slice (some ⟨w.heap.size + (refN w.heap.size 0 24 (tabRows.drop 24)).length, 0, none⟩) 24 24) ∧ w' = news w (refN w.heap.size 0 24 (tabRows.drop 24) ++ [.cells (refV w.heap.size 0 24 (tabRows.drop 24)).toArray 33]) :=
  making Tryd.func21 Tryd.ntmps21 rest_body (by kernel_rfl) (rest_ev0 _) (rest_ev _)
theorem prefixes_calls (w : World) : Calls Tryd.prog 22 #[] w fun e w' =>
    e = .returned (.slice (some ⟨w.heap.size, 0, none⟩) 20 20) ∧ w' = news w [.cells (presV tabPres).toArray 35] :=
  making Tryd.func22 Tryd.ntmps22 prefixes_body (by kernel_rfl) (pres_ev0 _) (pres_ev _)

/-! What first and rest made reads as the table. -/
def refSl (B : Nat) : Nat → List RowD → Nat → Value
  | _, [], _ => .slice none 0 0
  | k, r :: _, 0 => termSl B k r.terms
  | k, r :: rs, i + 1 => refSl B (refK k r.terms) rs i
theorem refV_eq (B : Nat) : ∀ (rs : List RowD) (k i : Nat), (∀ j, j < rs.length → rs.getD j default = rowAt (i + j)) → refV B k i rs = (List.range rs.length).flatMap fun j => atomV (refSl B k rs j) (i + j)
  | [], _, _, _ => rfl
  | r :: rs, k, i, h => by
    have h0 := h 0 (by simp)
    simp only [List.getD_cons_zero, Nat.add_zero] at h0
    rw [List.length_cons, List.range_succ_eq_map, List.flatMap_cons, List.flatMap_map, refV]
    congr 1
    · simp only [refSl, Nat.add_zero, atomV, ← h0]
      rfl
    · rw [refV_eq B rs (refK k r.terms) (i + 1) (fun j hj => by
        have := h (j + 1) (by simpa using hj)
        rw [List.getD_cons_succ] at this
        rw [this]; congr 1; omega)]
      congr 1
      funext j
      simp only [refSl, Function.comp]
      rw [show i + 1 + j = i + j.succ by omega]
theorem refSl_terms (B : Nat) (W : World) (b0 : Nat) (hb : b0 ≤ B) : ∀ (rs : List RowD) (k i0 : Nat), (∀ j o, (refN B k i0 rs)[j]? = some o → W.heap[B + k + j]? = some o) → (∀ r ∈ rs, r.terms.length ≤ 1000) →
    ∀ i, i < rs.length → TermsAt b0 W (refSl B k rs i) (rs.getD i default).terms
  | [], _, _, _, _, i, hi => by simp at hi
  | r :: rs, k, i0, h, hl, 0, _ => by
    have hlr := hl r (by simp)
    simp only [refSl, List.getD_cons_zero]
    cases ht : r.terms with
    | nil => exact ⟨⟨by simp [termsV], .inl ⟨rfl, rfl⟩⟩, fun _ => rfl⟩
    | cons t ts =>
      have h0 := h 0 (.cells (termsV (t :: ts)).toArray 37) (by simp [refN, refObjs, ht])
      rw [ht] at hlr
      refine ⟨⟨?_, .inr ⟨B + k, ts.length + 1, (termsV (t :: ts)).toArray, rfl, by omega, h0, Nat.le_refl _, ?_, ?_, ?_⟩⟩, fun e => by simp at e⟩
      · simp [termsV, List.length_flatMap, termV, List.map_const']; omega
      · unfold maxLen; simp at hlr; omega
      · simp [termsV, List.length_flatMap, termV, List.map_const']; omega
      · apply List.take_of_length_le
        simp [termsV, List.length_flatMap, termV, List.map_const']; omega
  | r :: rs, k, i0, h, hl, i + 1, hi => by
    simp only [refSl, List.getD_cons_succ]
    refine refSl_terms B W b0 hb rs (refK k r.terms) (i0 + 1) (fun j o hj => ?_) (fun r hr => hl r (by simp [hr])) i (by simpa using hi)
    cases ht : r.terms with
    | nil =>
      have := h (j + 2) o (by rw [refN, refObjs, ht]; rw [ht] at hj; simpa using hj)
      rw [show B + refK k [] + j = B + k + (j + 2) by simp [refK]; omega]
      exact this
    | cons t ts =>
      have := h (j + 3) o (by rw [refN, refObjs, ht]; rw [ht] at hj; simpa using hj)
      rw [show B + refK k (t :: ts) + j = B + k + (j + 3) by simp [refK]; omega]
      exact this
end Go.Proofs.YtiinppicdhidhaaDoor
