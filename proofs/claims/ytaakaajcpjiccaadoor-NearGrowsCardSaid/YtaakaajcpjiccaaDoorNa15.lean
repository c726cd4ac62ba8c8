/-
  The table: how its cells read. The reference's table: the contracts of drachmref05's atom, first, rest, prefixes. The reference's table: the contract of drachmref05.Table.
-/
import Derived.Test.YtaakaajcpjiccaaDoorNa11
set_option linter.unusedVariables false
set_option linter.unusedSimpArgs false
namespace Go.Proofs.YtaakaajcpjiccaaDoor
open Go.RowKit
open Go.Proofs

/-! A row's cells where the table lies. -/
theorem atomV_length (s : Value) (i : Nat) (hi : i < 48) : (atomV s i).length = 12 := by rw [atomV_at s i hi _ rfl]; rfl
theorem atomsV_drop (ss : Nat → Value) : ∀ n, n ≤ 48 → ∀ i, i < n → ((atomsV n ss).drop (i * 12)).take 12 = atomV (ss i) i := by
  intro n
  induction n with
  | zero => intro _ i hi; omega
  | succ n ih =>
    intro hn i hi
    have hl : ∀ m, m ≤ 48 → (atomsV m ss).length = m * 12 := by
      intro m
      induction m with
      | zero => intro _; rfl
      | succ m ihm =>
        intro hm
        have e : atomsV (m + 1) ss = atomsV m ss ++ atomV (ss m) m := by simp [atomsV, List.range_succ]
        rw [e, List.length_append, ihm (by omega), atomV_length _ _ (by omega)]
        omega
    have e : atomsV (n + 1) ss = atomsV n ss ++ atomV (ss n) n := by simp [atomsV, List.range_succ]
    rw [e]
    by_cases h : i = n
    · subst h
      rw [List.drop_left' (hl i (by omega))]
      exact List.take_of_length_le (by rw [atomV_length _ _ (by omega)]; omega)
    · have hi' : i < n := by omega
      have h1 := hl n (by omega)
      rw [List.drop_append_of_le_length (by omega), List.take_append_of_le_length (by rw [List.length_drop]; omega)]
      exact ih (by omega) i hi'
theorem rangeOf {w : World} {B e z n g cap : Nat} {xs : List Value} (h : w.ownsRow B e z (.slice (some ⟨g, 0, none⟩) n cap) n xs) (o k : Nat) (cs : List Value) (hc : (xs.drop o).take k = cs) : w.rangeAt g o cs := by
  intro j v hj
  subst hc
  have h2 := h.cells (g := g) rfl (o + j) v
  rw [addPlain] at h2
  apply h2
  rw [List.getElem?_take] at hj
  split at hj
  · rw [List.getElem?_drop] at hj; exact hj
  · simp at hj
theorem size_A : (Tryd.prog.info? 124).map (·.size) = some 12 := by kernel_rfl
theorem size_P : (Tryd.prog.info? 145).map (·.size) = some 6 := by kernel_rfl
def atomList (k : Nat) (b : Int) (s : Value) : List Value := [.string ⟨(codeAt k 0).toArray⟩, .string ⟨(codeAt k 1).toArray⟩, .string ⟨(codeAt k 2).toArray⟩, .string ⟨(codeAt k 3).toArray⟩, .string ⟨(codeAt k 4).toArray⟩, .bool (rowAt k).metric, .int .i64 (rowAt k).tag, .int .i64 b, .int .i64 (rowAt k).num, .int .i64 (rowAt k).den, .int .i64 (rowAt k).ten, s]
theorem atom_range {w : World} {B g cap : Nat} {ss : Nat → Value} (h : w.ownsRow B 124 12 (.slice (some ⟨g, 0, none⟩) 48 cap) 48 (atomsV 48 ss)) (i : Nat) (hi : i < 48) :
    w.rangeAt g (i * 12) (atomList i (baseAt i) (ss i)) := by
  have hr := rangeOf h (i * 12) 12 _ (atomsV_drop ss 48 (Nat.le_refl _) i hi)
  rw [atomV_at _ i hi _ rfl] at hr
  exact hr
theorem form_of {w : World} {B e z n : Nat} {v : Value} {xs : List Value} (h : w.ownsRow B e z v n xs) (hn : 0 < n) : ∃ g cap, v = .slice (some ⟨g, 0, none⟩) n cap := by
  rcases h.2 with ⟨rfl, h0⟩ | ⟨g, cap, cur, rfl, _⟩
  · omega
  · exact ⟨g, cap, rfl⟩
/-! Prefixes. -/
theorem flat_drop {α : Type} (f : α → List Value) (k : Nat) : ∀ (l : List α), (∀ a ∈ l, (f a).length = k) → ∀ i (h : i < l.length), ((l.flatMap f).drop (i * k)).take k = f l[i]
  | [], _, i, h => by simp at h
  | a :: l, hf, 0, _ => by
    have := hf a (by simp)
    simp only [List.flatMap_cons, Nat.zero_mul, List.drop_zero, List.getElem_cons_zero]
    rw [← this, List.take_left']
    rfl
  | a :: l, hf, i + 1, h => by
    have ha := hf a (by simp)
    simp only [List.flatMap_cons, List.getElem_cons_succ]
    rw [show (i + 1) * k = k + i * k by rw [Nat.add_mul]; omega, ← List.drop_drop, List.drop_left' ha]
    exact flat_drop f k l (fun x hx => hf x (by simp [hx])) i (by simpa using h)
def preAt (i : Nat) : PreD := tabPres.getD i default
def preCodeAt (i n : Nat) : List UInt8 := (preAt i).codes.getD n []
theorem pres_codes : ∀ p ∈ tabPres, p.codes.length = 5 := by decide
theorem preAt_mem (k : Nat) (hk : k < 20) : preAt k ∈ tabPres := by
  have : k < tabPres.length := by simpa [tabPres] using hk
  simp only [preAt, List.getD_eq_getElem?_getD, List.getElem?_eq_getElem this, Option.getD_some]
  exact List.getElem_mem _
def preList (k : Nat) : List Value := [.string ⟨(preCodeAt k 0).toArray⟩, .string ⟨(preCodeAt k 1).toArray⟩, .string ⟨(preCodeAt k 2).toArray⟩, .string ⟨(preCodeAt k 3).toArray⟩, .string ⟨(preCodeAt k 4).toArray⟩, .int .i64 (preAt k).ten]
theorem preV_list (k : Nat) (hk : k < 20) : preV (preAt k) = preList k := by
  have h := pres_codes _ (preAt_mem k hk)
  unfold preV preList preCodeAt
  match hc : (preAt k).codes, h with
  | [a, b, c, d, e], _ => rfl
theorem pre_range {w : World} {B g cap : Nat} (h : w.ownsRow B 145 6 (.slice (some ⟨g, 0, none⟩) 20 cap) 20 (presV tabPres)) (i : Nat) (hi : i < 20) : w.rangeAt g (i * 6) (preList i) := by
  refine rangeOf h (i * 6) 6 _ ?_
  have hl : i < tabPres.length := by simpa [tabPres] using hi
  rw [← preV_list i hi]
  unfold presV
  rw [flat_drop preV 6 tabPres (fun p hp => by simp [preV, pres_codes p hp]) i hl]
  simp [preAt, List.getD_eq_getElem?_getD, hl]
def TableOk (w : World) (e : Ending) (w' : World) : Prop := ∃ a1 c1 a2 c2 ss, e = .returned (.agg #[.slice a1 48 c1, .slice a2 20 c2]) ∧ TableAt w.heap.size w' (.slice a1 48 c1) (.slice a2 20 c2) ss ∧ Below w.heap.size w w'
theorem table_ok (w : World) (hL : Laid w) : Calls Tryd.prog 66 #[] w (TableOk w) := (table_calls w hL).mono fun e w' ⟨⟨va, vp, ss, he, ht⟩, hb⟩ => by
  obtain ⟨a1, c1, rfl⟩ := slice_of ht.atoms
  obtain ⟨a2, c2, rfl⟩ := slice_of ht.pres
  exact ⟨a1, c1, a2, c2, ss, he, ht, hb⟩
theorem TableAt.slices {B : Nat} {w : World} {va vp : Value} {ss : Nat → Value} (h : TableAt B w va vp ss) (i : Nat) (hi : i < 48) : ∃ a l c, ss i = .slice a l c := by
  obtain ⟨a, c, e⟩ := slice_of (h.terms i hi).own
  exact ⟨a, _, c, e⟩
end Go.Proofs.YtaakaajcpjiccaaDoor
namespace Go.Proofs.YtaakaajcpjiccaaDoor
open Go.RowKit
open Go.Proofs

/-- As 'opsNew', with calls of functions that make new memory alone. -/
def opsNewC (P : Program) (B : Nat) (c : FuncId → Array Value → Option (Value × List Obj)) (a : Act) : List Oper → List (Nat × Value) → List Obj → Option (List (Nat × Value) × List Obj)
  | [], env, n => some (env, n)
  | o :: r, env, n =>
    match o.guard, o.dst with
    | none, some d =>
      match semNew P B (execOp (look env a) o) n with
      | some (.value v, n') => if d < a.tmps.size then opsNewC P B c a r ((d, v) :: env) n' else none
      | some (.enter f args, n') =>
        match c f args with
        | some (v, m) => if d < a.tmps.size then opsNewC P B c a r ((d, v) :: env) (n' ++ m) else none
        | none => none
      | _ => none
    | _, _ => none
def Makes (P : Program) (c : FuncId → Array Value → Option (Value × List Obj)) : Prop := ∀ f args v m, c f args = some (v, m) → ∀ w, Calls P f args w fun e w' => e = .returned v ∧ w' = news w m
theorem news_news (w : World) (n m : List Obj) : news (news w n) m = news w (n ++ m) := by simp [news]
theorem wpList_opsNewC {P : Program} {c : FuncId → Array Value → Option (Value × List Obj)} (hc : Makes P c) {ops : Array Oper} {Q : Exit → Act → World → Prop} {rest : List Oper} {w : World} {a : Act} {N : List Obj} :
    ∀ {l : List Oper} {env env' : List (Nat × Value)} {n : List Obj} {a' : Act}, opsNewC P w.heap.size c a l env n = some (env', N) → Same env a a' →
      (∀ a'', Same env' a a'' → wpList P ops Q rest a'' (news w N)) → wpList P ops Q (l ++ rest) a' (news w n) := by
  intro l
  induction l with
  | nil => intro env env' n a' h hs k; simp [opsNewC] at h; obtain ⟨rfl, rfl⟩ := h; exact k _ hs
  | cons o r ih =>
    intro env env' n a' h hs k
    unfold opsNewC at h
    split at h
    · rename_i d hg hd
      split at h
      · rename_i v n' he
        split at h
        · rename_i hlt
          have hrun := semNew_run he
          refine wpList_plain hg fun K hK => ?_
          unfold Oper.wp
          rw [hs.fun_eq, hrun, Oper.upon_value]
          refine hK _ _ ?_
          rw [hd]
          exact ih h (hs.put d v hlt) k
        · simp at h
      · rename_i f args n' he
        split at h
        · rename_i v m hcf
          split at h
          · rename_i hlt
            have hrun := semNew_run he
            refine wpList_plain hg fun K hK => ?_
            unfold Oper.wp
            rw [hs.fun_eq, hrun, Oper.upon_enter]
            refine (hc f args v m hcf _).mono ?_
            rintro e w' ⟨rfl, rfl⟩
            refine hK _ _ ?_
            rw [hd, news_news]
            exact ih h (hs.put d v hlt) k
          · simp at h
        · simp at h
      · simp at h
    · simp at h

theorem news_alloc (w : World) (n : List Obj) (o : Obj) : (news w n).alloc o = news w (n ++ [o]) := by
  show ({ news w n with heap := (news w n).heap.push o } : World) = _
  simp [news]
theorem alloc_two (w : World) (a b : Obj) : (w.alloc a).alloc b = news w [a, b] := by
  have h := news_nil w
  conv => lhs; rw [← h]
  rw [news_alloc, news_alloc]
  rfl
/-! The function 'atom'. -/
set_option maxHeartbeats 400000 in
theorem ref_atom_calls (s0 s1 s2 s3 s4 : ByteArray) (m : Bool) (tag base num den ten : Int) (a : Option Addr) (l c : Nat) (w : World) :
    Calls Tryd.prog 92 #[.agg #[.string s0, .string s1, .string s2, .string s3, .string s4], .bool m, .int .i64 tag, .int .i64 base, .int .i64 num, .int .i64 den, .int .i64 ten, .slice a l c] w fun e w' =>
      e = .returned (.agg #[.string s0, .string s1, .string s2, .string s3, .string s4, .bool m, .int .i64 tag, .int .i64 base, .int .i64 num, .int .i64 den, .int .i64 ten, .slice a l c]) ∧
      w' = news w [.cells #[.string s0, .string s1, .string s2, .string s3, .string s4] 121, .cells #[.string s0, .string s1, .string s2, .string s3, .string s4, .bool m, .int .i64 tag, .int .i64 base, .int .i64 num, .int .i64 den, .int .i64 ten, .slice a l c] 124] := by
  go_enter Tryd.func92, Tryd.ntmps92
  go_wp2
  exact bodyPost_ret (v := .agg #[.string s0, .string s1, .string s2, .string s3, .string s4, .bool m, .int .i64 tag, .int .i64 base, .int .i64 num, .int .i64 den, .int .i64 ten, .slice a l c]) (by simp [results, Tryd.results92, go_sem]) rfl ⟨rfl, alloc_two _ _ _⟩
/-- What the callees of 'first' and 'rest' make. -/
def callee (f : FuncId) (args : Array Value) : Option (Value × List Obj) :=
  if f = 92 then
    match args.toList with
    | [.agg cs, .bool m, .int .i64 tag, .int .i64 base, .int .i64 num, .int .i64 den, .int .i64 ten, .slice a l c] =>
      match cs.toList with
      | [.string s0, .string s1, .string s2, .string s3, .string s4] =>
        some (.agg #[.string s0, .string s1, .string s2, .string s3, .string s4, .bool m, .int .i64 tag, .int .i64 base, .int .i64 num, .int .i64 den, .int .i64 ten, .slice a l c], [.cells #[.string s0, .string s1, .string s2, .string s3, .string s4] 121, .cells #[.string s0, .string s1, .string s2, .string s3, .string s4, .bool m, .int .i64 tag, .int .i64 base, .int .i64 num, .int .i64 den, .int .i64 ten, .slice a l c] 124])
      | _ => none
    | _ => none
  else none
theorem callee_makes : Makes Tryd.prog callee := by
  intro f args v m h w
  unfold callee at h
  split at h
  · rename_i hf
    subst hf
    split at h
    · rename_i cs m tag base num den ten a l c hargs
      split at h
      · rename_i s0 s1 s2 s3 s4 hcs
        simp only [Option.some.injEq, Prod.mk.injEq] at h
        obtain ⟨rfl, rfl⟩ := h
        have e1 : args = #[.agg cs, .bool m, .int .i64 tag, .int .i64 base, .int .i64 num, .int .i64 den, .int .i64 ten, .slice a l c] := Array.toList_inj.1 hargs
        have e2 : cs = #[.string s0, .string s1, .string s2, .string s3, .string s4] := Array.toList_inj.1 hcs
        rw [e1, e2]
        exact ref_atom_calls _ _ _ _ _ _ _ _ _ _ _ _ _ _ _
      · simp at h
    · simp at h
  · simp at h
def atomRV (s : Value) (i : Nat) (r : RowD) : List Value := r.codes.map strV ++ [.bool r.metric, intV r.tag, intV (baseAt i), intV r.num, intV r.den, intV r.ten, s]
def refK (k : Nat) : List (Int × Int) → Nat
  | [] => k + 2
  | _ => k + 3
def refObjs (s : Value) (i : Nat) (r : RowD) : List Obj :=
  (match r.terms with
    | [] => []
    | ts => [.cells (termsV ts).toArray 98]) ++ [.cells (r.codes.map strV).toArray 121, .cells (atomRV s i r).toArray 124]
def refN (B : Nat) : Nat → Nat → List RowD → List Obj
  | _, _, [] => []
  | k, i, r :: rs => refObjs (termSl B k r.terms) i r ++ refN B (refK k r.terms) (i + 1) rs
def refV (B : Nat) : Nat → Nat → List RowD → List Value
  | _, _, [] => []
  | k, i, r :: rs => atomRV (termSl B k r.terms) i r ++ refV B (refK k r.terms) (i + 1) rs
def act (n : Nat) : Act := ⟨Array.replicate n undef, []⟩
theorem first_body : Tryd.f78.body = some (.seq (.region 0 (regs Tryd.f78 0) false) (.seq (.region 1 (regs Tryd.f78 1) false) .ret)) := by kernel_rfl
theorem rest_body : Tryd.f79.body = some (.seq (.region 0 (regs Tryd.f79 0) false) (.seq (.region 1 (regs Tryd.f79 1) false) .ret)) := by kernel_rfl
theorem prefixes_body : Tryd.f80.body = some (.seq (.region 0 (regs Tryd.f80 0) false) (.seq (.region 1 (regs Tryd.f80 1) false) .ret)) := by kernel_rfl
def envNil : List (Nat × Value) := [(0, .slice none 0 0)]
theorem first_ev0 (B : Nat) : opsNewC Tryd.prog B callee (act 92) (regs Tryd.f78 0).toList [] [] = some (envNil, []) := by kernel_rfl
theorem first_ev (B : Nat) : (opsNewC Tryd.prog B callee (act 92) (regs Tryd.f78 1).toList envNil []).map (fun r => (r.1.lookup 0, r.2)) =
    some (some (.slice (some ⟨B + (refN B 0 0 (tabRows.take 24)).length, 0, none⟩) 24 24), refN B 0 0 (tabRows.take 24) ++ [.cells (refV B 0 0 (tabRows.take 24)).toArray 124]) := by kernel_rfl
theorem rest_ev0 (B : Nat) : opsNewC Tryd.prog B callee (act 100) (regs Tryd.f79 0).toList [] [] = some (envNil, []) := by kernel_rfl
theorem rest_ev (B : Nat) : (opsNewC Tryd.prog B callee (act 100) (regs Tryd.f79 1).toList envNil []).map (fun r => (r.1.lookup 0, r.2)) =
    some (some (.slice (some ⟨B + (refN B 0 24 (tabRows.drop 24)).length, 0, none⟩) 24 24), refN B 0 24 (tabRows.drop 24) ++ [.cells (refV B 0 24 (tabRows.drop 24)).toArray 124]) := by kernel_rfl
theorem pres_ev0 (B : Nat) : opsNewC Tryd.prog B callee (act 42) (regs Tryd.f80 0).toList [] [] = some (envNil, []) := by kernel_rfl
theorem pres_ev (B : Nat) : (opsNewC Tryd.prog B callee (act 42) (regs Tryd.f80 1).toList envNil []).map (fun r => (r.1.lookup 0, r.2)) =
    some (some (.slice (some ⟨B, 0, none⟩) 20 20), [.cells (presV tabPres).toArray 145]) := by kernel_rfl
theorem making {f : FuncId} {fn : Func} {n : Nat} {o0 o1 : Array Oper} {e0 : List (Nat × Value)} {v : Value} {N : List Obj} {w : World} (hf : Tryd.prog.funcs[f]? = some fn) (hn : fn.ntmps = n) (hb : fn.body = some (.seq (.region 0 o0 false) (.seq (.region 1 o1 false) .ret))) (hr : fn.results = #[.tmp 0])
    (h0 : opsNewC Tryd.prog w.heap.size callee (act n) o0.toList [] [] = some (e0, [])) (h1 : (opsNewC Tryd.prog w.heap.size callee (act n) o1.toList e0 []).map (fun r => (r.1.lookup 0, r.2)) = some (some v, N)) :
    Calls Tryd.prog f #[] w fun e w' => e = .returned v ∧ w' = news w N := by
  refine calls_of_wp hf hb ?_
  rw [hn]
  have e0' : ({ tmps := #[] ++ Array.replicate (n - (#[] : Array Value).size) undef, defers := [] } : Act) = act n := by simp [act]
  rw [e0']
  refine wp_seq_k fun K hK => wp_region_list ?_
  have hnn := news_nil w
  rw [← hnn]
  rw [show o0.toList = o0.toList ++ [] from (List.append_nil _).symm]
  refine wpList_opsNewC callee_makes h0 ⟨fun x => by cases x <;> simp [look, Act.eval], rfl, rfl⟩ fun a1 s1 => ?_
  refine wpList_nil ?_
  show K a1 _
  refine hK _ _ ?_
  refine wp_seq_k fun K2 hK2 => wp_region_list ?_
  obtain ⟨⟨env, N'⟩, hev, hm⟩ := Option.map_eq_some_iff.1 h1
  simp only [Prod.mk.injEq] at hm
  obtain ⟨l0, rfl⟩ := hm
  rw [show o1.toList = o1.toList ++ [] from (List.append_nil _).symm]
  refine wpList_opsNewC callee_makes hev s1 fun a2 s2 => ?_
  refine wpList_nil ?_
  show K2 _ _
  refine hK2 _ _ ?_
  refine wp_ret ?_
  refine bodyPost_ret (results_tmp hr _ _ _) s2.defers ⟨?_, rfl⟩
  have := s2.eval (.tmp 0)
  simp only [Act.eval, look, l0, Option.getD_some] at this
  rw [this]
theorem first_calls (w : World) : Calls Tryd.prog 78 #[] w fun e w' =>
    e = .returned (.slice (some ⟨w.heap.size + (refN w.heap.size 0 0 (tabRows.take 24)).length, 0, none⟩) 24 24) ∧ w' = news w (refN w.heap.size 0 0 (tabRows.take 24) ++ [.cells (refV w.heap.size 0 0 (tabRows.take 24)).toArray 124]) :=
  making Tryd.func78 Tryd.ntmps78 first_body (by kernel_rfl) (first_ev0 _) (first_ev _)
theorem rest_calls (w : World) : Calls Tryd.prog 79 #[] w fun e w' =>
    e = .returned (.slice (some ⟨w.heap.size + (refN w.heap.size 0 24 (tabRows.drop 24)).length, 0, none⟩) 24 24) ∧ w' = news w (refN w.heap.size 0 24 (tabRows.drop 24) ++ [.cells (refV w.heap.size 0 24 (tabRows.drop 24)).toArray 124]) :=
  making Tryd.func79 Tryd.ntmps79 rest_body (by kernel_rfl) (rest_ev0 _) (rest_ev _)
theorem prefixes_calls (w : World) : Calls Tryd.prog 80 #[] w fun e w' =>
    e = .returned (.slice (some ⟨w.heap.size, 0, none⟩) 20 20) ∧ w' = news w [.cells (presV tabPres).toArray 145] :=
  making Tryd.func80 Tryd.ntmps80 prefixes_body (by kernel_rfl) (pres_ev0 _) (pres_ev _)

/-! What first and rest made reads as the table. -/
def refSl (B : Nat) : Nat → List RowD → Nat → Value
  | _, [], _ => .slice none 0 0
  | k, r :: _, 0 => termSl B k r.terms
  | k, r :: rs, i + 1 => refSl B (refK k r.terms) rs i
theorem refV_eq (B : Nat) : ∀ (rs : List RowD) (k i : Nat), (∀ j, j < rs.length → rs.getD j default = rowAt (i + j)) → refV B k i rs = (List.range rs.length).flatMap fun j => atomV (refSl B k rs j) (i + j)
  | [], _, _, _ => rfl
  | r :: rs, k, i, h => by
    have h0 := h 0 (by simp)
    simp only [List.getD_cons_zero, Nat.add_zero] at h0
    rw [List.length_cons, List.range_succ_eq_map, List.flatMap_cons, List.flatMap_map, refV]
    congr 1
    · simp only [refSl, Nat.add_zero, atomV, ← h0]
      rfl
    · rw [refV_eq B rs (refK k r.terms) (i + 1) (fun j hj => by
        have := h (j + 1) (by simpa using hj)
        rw [List.getD_cons_succ] at this
        rw [this]; congr 1; omega)]
      congr 1
      funext j
      simp only [refSl, Function.comp]
      rw [show i + 1 + j = i + j.succ by omega]
theorem refSl_terms (B : Nat) (W : World) (b0 : Nat) (hb : b0 ≤ B) : ∀ (rs : List RowD) (k i0 : Nat), (∀ j o, (refN B k i0 rs)[j]? = some o → W.heap[B + k + j]? = some o) → (∀ r ∈ rs, r.terms.length ≤ 1000) →
    ∀ i, i < rs.length → TermsAt b0 W (refSl B k rs i) (rs.getD i default).terms
  | [], _, _, _, _, i, hi => by simp at hi
  | r :: rs, k, i0, h, hl, 0, _ => by
    have hlr := hl r (by simp)
    simp only [refSl, List.getD_cons_zero]
    cases ht : r.terms with
    | nil => exact ⟨⟨by simp [termsV], .inl ⟨rfl, rfl⟩⟩, fun _ => rfl⟩
    | cons t ts =>
      have h0 := h 0 (.cells (termsV (t :: ts)).toArray 98) (by simp [refN, refObjs, ht])
      rw [ht] at hlr
      refine ⟨⟨?_, .inr ⟨B + k, ts.length + 1, (termsV (t :: ts)).toArray, rfl, by omega, h0, Nat.le_refl _, ?_, ?_, ?_⟩⟩, fun e => by simp at e⟩
      · simp [termsV, List.length_flatMap, termV, List.map_const']; omega
      · unfold maxLen; simp at hlr; omega
      · simp [termsV, List.length_flatMap, termV, List.map_const']; omega
      · apply List.take_of_length_le
        simp [termsV, List.length_flatMap, termV, List.map_const']; omega
  | r :: rs, k, i0, h, hl, i + 1, hi => by
    simp only [refSl, List.getD_cons_succ]
    refine refSl_terms B W b0 hb rs (refK k r.terms) (i0 + 1) (fun j o hj => ?_) (fun r hr => hl r (by simp [hr])) i (by simpa using hi)
    cases ht : r.terms with
    | nil =>
      have := h (j + 2) o (by rw [refN, refObjs, ht]; rw [ht] at hj; simpa using hj)
      rw [show B + refK k [] + j = B + k + (j + 2) by simp [refK]; omega]
      exact this
    | cons t ts =>
      have := h (j + 3) o (by rw [refN, refObjs, ht]; rw [ht] at hj; simpa using hj)
      rw [show B + refK k (t :: ts) + j = B + k + (j + 3) by simp [refK]; omega]
      exact this
end Go.Proofs.YtaakaajcpjiccaaDoor
namespace Go.Proofs.YtaakaajcpjiccaaDoor
open Go.RowKit
open Go.Proofs

theorem take_getD (j : Nat) (hj : j < 24) : (tabRows.take 24).getD j default = rowAt (0 + j) := by
  simp only [rowAt, List.getD_eq_getElem?_getD, Nat.zero_add, List.getElem?_take, if_pos hj]
theorem drop_getD (j : Nat) (hj : j < 24) : (tabRows.drop 24).getD j default = rowAt (24 + j) := by
  simp only [rowAt, List.getD_eq_getElem?_getD, List.getElem?_drop]
theorem take_len : (tabRows.take 24).length = 24 := rfl
theorem drop_len : (tabRows.drop 24).length = 24 := rfl
def partV (i0 : Nat) (sl : Nat → Value) : List Value := (List.range 24).flatMap fun j => atomV (sl j) (i0 + j)
/-- The slices of the terms, first those of the first part, then those of the other. -/
def refSs (s1 s2 : Nat → Value) (i : Nat) : Value := if i < 24 then s1 i else s2 (i - 24)
theorem parts_atoms (s1 s2 : Nat → Value) : partV 0 s1 ++ partV 24 s2 = atomsV 48 (refSs s1 s2) := by
  unfold atomsV partV
  rw [show (48 : Nat) = 24 + 24 from rfl, List.range_add, List.flatMap_append, List.flatMap_map]
  congr 1
def PartOk (i0 : Nat) (w : World) (e : Ending) (w' : World) : Prop :=
  ∃ g sl, e = .returned (.slice (some ⟨g, 0, none⟩) 24 24) ∧ w'.ownsRow w.heap.size 124 12 (.slice (some ⟨g, 0, none⟩) 24 24) 24 (partV i0 sl) ∧ (∀ i, i < 24 → TermsAt w.heap.size w' (sl i) (rowAt (i0 + i)).terms) ∧ Below w.heap.size w w'
theorem refV_length (B i : Nat) (l : List RowD) : ∀ k, (∀ r ∈ l, r.codes.length = 5) → (refV B k i l).length = l.length * 12 := by
  induction l generalizing i with
  | nil => intro k _; rfl
  | cons r l ih =>
    intro k h
    have h5 := h r (by simp)
    rw [refV, List.length_append, ih (i + 1) (refK k r.terms) (fun x hx => h x (by simp [hx]))]
    simp [atomRV, h5]
    omega
theorem refV_one (B i : Nat) (l : List RowD) : ∀ k, ∀ u ∈ refV B k i l, u.oneCell' = true := by
  induction l generalizing i with
  | nil => intro k u hu; simp [refV] at hu
  | cons r l ih =>
    intro k u hu
    rw [refV, List.mem_append] at hu
    rcases hu with hu | hu
    · simp only [atomRV, List.mem_append, List.mem_map, List.mem_cons, List.not_mem_nil, or_false] at hu
      rcases hu with ⟨c, _, rfl⟩ | rfl | rfl | rfl | rfl | rfl | rfl | rfl <;> try rfl
      unfold termSl
      cases r.terms <;> rfl
    · exact ih (i + 1) _ u hu
theorem news_own {w : World} {N : List Obj} {cs : List Value} {e z n : Nat} (b0 : Nat) (hb : b0 ≤ w.heap.size) (hl : cs.length = n * z) (hn : n ≤ 1000) :
    (news w (N ++ [.cells cs.toArray e])).ownsRow b0 e z (.slice (some ⟨w.heap.size + N.length, 0, none⟩) n n) n cs :=
  ⟨hl, .inr ⟨w.heap.size + N.length, n, cs.toArray, rfl, by omega, news_new w _ N.length _ (by simp), Nat.le_refl _, by unfold maxLen; omega, by simpa using hl, by simp [← hl]⟩⟩
theorem take_codes : ∀ r ∈ tabRows.take 24, r.codes.length = 5 := fun r hr => rows_codes r (List.mem_of_mem_take hr)
theorem drop_codes : ∀ r ∈ tabRows.drop 24, r.codes.length = 5 := fun r hr => rows_codes r (List.mem_of_mem_drop hr)
theorem part_ok {i0 : Nat} {rs : List RowD} (w : World) (hlen : rs.length = 24) (hget : ∀ j, j < 24 → rs.getD j default = rowAt (i0 + j)) (hc : ∀ r ∈ rs, r.codes.length = 5) (hs : ∀ r ∈ rs, r.terms.length ≤ 1000) :
    PartOk i0 w (.returned (.slice (some ⟨w.heap.size + (refN w.heap.size 0 i0 rs).length, 0, none⟩) 24 24)) (news w (refN w.heap.size 0 i0 rs ++ [.cells (refV w.heap.size 0 i0 rs).toArray 124])) := by
  have hv := refV_eq w.heap.size rs 0 i0 (fun j hj => hget j (by omega))
  rw [hlen] at hv
  have hl : (refV w.heap.size 0 i0 rs).length = 24 * 12 := by rw [refV_length _ _ _ _ hc, hlen]
  refine ⟨_, refSl w.heap.size 0 rs, rfl, ?_, fun i hi => ?_, news_below _ _⟩
  · have := news_own (w := w) (N := refN w.heap.size 0 i0 rs) (e := 124) w.heap.size (Nat.le_refl _) hl (by omega)
    rw [hv] at this ⊢
    exact this
  · rw [← hget i hi]
    refine refSl_terms w.heap.size _ w.heap.size (Nat.le_refl _) rs 0 i0 (fun j o hj => ?_) hs i (by omega)
    rw [Nat.add_zero]
    refine news_new w _ j o ?_
    rw [List.getElem?_append_left (List.getElem?_eq_some_iff.1 hj).1]
    exact hj
theorem first_ok (w : World) : Calls Tryd.prog 78 #[] w (PartOk 0 w) := (first_calls w).mono fun e w' ⟨he, hw⟩ => by
  rw [he, hw]
  exact part_ok w take_len take_getD take_codes (fun r hr => rows_short r (List.mem_of_mem_take hr))
theorem rest_ok (w : World) : Calls Tryd.prog 79 #[] w (PartOk 24 w) := (rest_calls w).mono fun e w' ⟨he, hw⟩ => by
  rw [he, hw]
  exact part_ok w drop_len drop_getD drop_codes (fun r hr => rows_short r (List.mem_of_mem_drop hr))
theorem partV_one (i0 : Nat) (h : i0 ≤ 24) (sl : Nat → Value) (hsl : ∀ i, i < 24 → ∃ a n c, sl i = .slice a n c) : ∀ u ∈ partV i0 sl, u.oneCell' = true := by
  intro u hu
  simp only [partV, List.mem_flatMap, List.mem_range] at hu
  obtain ⟨j, hj, hu⟩ := hu
  obtain ⟨a, n, c, e⟩ := hsl j hj
  rw [e, atomV_at _ _ (by omega) _ rfl] at hu
  exact atomArr_one _ _ _ _ _ u hu
theorem ownBase {w : World} {B B' e z n : Nat} {v : Value} {xs : List Value} (h : w.ownsRow B' e z v n xs) (hB : B ≤ B') : w.ownsRow B e z v n xs := by
  refine ⟨h.1, ?_⟩
  rcases h.2 with h0 | ⟨g, cap, cur, hv, hb, r⟩
  · exact .inl h0
  · exact .inr ⟨g, cap, cur, hv, by omega, r⟩
theorem ref_end {w W0 w1 w2 w3 w4 : World} {g1 : Nat} {a : Option Addr} {c : Nat} {s1 s2 : Nat → Value} (hW0 : W0 = w.alloc (.cells #[.slice none 0 0, .slice none 0 0] 89)) (hb1 : Below W0.heap.size W0 w1) (hb2 : Below w1.heap.size w1 w2)
    (ho1 : w2.ownsRow (w.heap.size + 1) 124 12 (.slice (some ⟨g1, 0, none⟩) 24 24) 24 (partV 0 s1)) (ht1 : ∀ i, i < 24 → TermsAt W0.heap.size w1 (s1 i) (rowAt (0 + i)).terms) (ht2 : ∀ i, i < 24 → TermsAt w1.heap.size w2 (s2 i) (rowAt (24 + i)).terms)
    (hg : w2.grownBy w3 (some g1)) (ho : w3.ownsRow (w.heap.size + 1) 124 12 (.slice a 48 c) 48 (partV 0 s1 ++ partV 24 s2)) (hw4 : w4 = news w3 [.cells (presV tabPres).toArray 145]) :
    TableAt w.heap.size w4 (.slice a 48 c) (.slice (some ⟨w3.heap.size, 0, none⟩) 20 20) (refSs s1 s2) ∧ Below w.heap.size w w4 ∧ w4.heap[w.heap.size]? = some (.cells #[.slice none 0 0, .slice none 0 0] 89 (0, 0)) := by
  have z0 : W0.heap.size = w.heap.size + 1 := by rw [hW0]; simp
  have z1 := hb1.size
  have z2 := hb2.size
  have z3 := hg.size
  have hlt := ho1.lt g1 rfl
  have hn : Below w3.heap.size w3 w4 := by rw [hw4]; exact news_below _ _
  have k1 : ∀ s ts, TermsAt w.heap.size w2 s ts → TermsAt w.heap.size w4 s ts := fun s ts h => (h.kept hg (own_own h.own ho1 (by decide))).below hn
  refine ⟨⟨?_, ?_, ?_⟩, ?_, ?_⟩
  · rw [← parts_atoms]
    exact ownBelow (ownBase ho (by omega)) hn
  · rw [hw4]
    have := news_own (w := w3) (N := []) (cs := presV tabPres) (e := 145) (z := 6) (n := 20) w.heap.size (by omega) (by kernel_rfl) (by omega)
    simpa using this
  · intro i hi
    refine k1 _ _ ?_
    by_cases h : i < 24
    · have := ((ht1 i h).below hb2).base (B := w.heap.size) (by omega)
      rw [Nat.zero_add] at this
      simp only [refSs, if_pos h]
      exact this
    · have := (ht2 (i - 24) (by omega)).base (B := w.heap.size) (by omega)
      rw [show 24 + (i - 24) = i by omega] at this
      simp only [refSs, if_neg h]
      exact this
  · have b0 : Below w.heap.size w W0 := by rw [hW0]; exact (Below.refl _ _).alloc (Nat.le_refl _) _
    have b2 : Below w.heap.size w w2 := (b0.trans (hb1.mono (by omega))).trans (hb2.mono (by omega))
    exact (b2.grown hg (by omega) (fun j hj => by simp at hj; omega)).trans (hn.mono (by omega))
  · rw [hn.block _ (by omega), hg.block _ (by omega) (by simp; omega), hb2.block _ (by omega), hb1.block _ (by omega), hW0]
    exact heap_alloc_new w _
set_option maxHeartbeats 1000000 in
theorem refTable_ok (w : World) : Calls Tryd.prog 62 #[] w (TableOk w) := by
  obtain ⟨i0, hi, hz0, hz1, hz2⟩ := info_parts info_A
  go_enter Tryd.func62, Tryd.ntmps62
  go_wp2_with fail
  refine (first_ok _).mono ?_
  intro e w1 h1
  obtain ⟨g1, s1, rfl, hown1, hterms1, hb1⟩ := h1
  go_wp2_with fail
  refine (rest_ok _).mono ?_
  intro e w2 h2
  obtain ⟨g2, s2, rfl, hown2, hterms2, hb2⟩ := h2
  have hz : w.heap.size + 1 ≤ w1.heap.size := by have := hb1.size; simpa using this
  have hsz0 : (w.alloc (.cells #[.slice none 0 0, .slice none 0 0] 89)).heap.size = w.heap.size + 1 := by simp
  have HO1 : Hid (w2.ownsRow (w.heap.size + 1) 124 12 (.slice (some ⟨g1, 0, none⟩) 24 24) 24 (partV 0 s1)) := by
    have h := ownBelow hown1 hb2
    rw [hsz0] at h
    exact h
  have HO2 := Lib.hid hown2
  have HX : Hid (∀ j u, (partV 24 s2)[j]? = some u → w2.cell? ((⟨g2, 0, none⟩ : Addr).add j) = some u) := fun j u hu => hown2.cells (g := g2) rfl j u hu
  have HN : Hid (∀ u ∈ partV 24 s2, u.oneCell' = true) := partV_one 24 (Nat.le_refl _) s2 (fun i hi => by
    obtain ⟨a, c, e⟩ := slice_of (hterms2 i hi).own
    exact ⟨a, _, c, e⟩)
  have HT1 := Lib.hid hterms1; have HT2 := Lib.hid hterms2; have HB1 := Lib.hid hb1; have HB2 := Lib.hid hb2
  clear hown1 hown2 hterms1 hterms2 hb1 hb2 hsz0
  go_wp2_with (at_builtin; refine wpList_append_own _ rfl _ _ 86 rfl (w.heap.size + 1) 124 i0 _ 12 152 Tryd.underlying86 hi hz0 hz1 hz2 rfl (by decide) _ 24 _ rfl HO1.out ⟨g2, 0, none⟩ 24 24 (partV 24 s2) rfl HO2.out.1 HX.out HN.out ?_ ?_ ?_ ?_)
  · unfold maxLen; omega
  · omega
  · have := HB2.out.size; omega
  · intro v' w3 hown' hgrow hnil
    obtain ⟨x1, x2, rfl⟩ := slice_of hown'
    have HO' := Lib.hid hown'; have HG := Lib.hid hgrow
    clear hown' hgrow hnil
    go_wp2_with fail
    refine (prefixes_calls _).mono ?_
    rintro e w4 ⟨rfl, hw4⟩
    obtain ⟨hta, hbb, hcell⟩ := ref_end rfl HB1.out HB2.out HO1.out HT1.out HT2.out HG.out HO'.out hw4
    have r0 : w4.cell? ⟨w.heap.size, 0, none⟩ = some (.slice none 0 0) := by simp [World.cell?, hcell]
    have r1 : w4.cell? ⟨w.heap.size, 1, none⟩ = some (.slice none 0 0) := by simp [World.cell?, hcell]
    have f0 : w4.frozen? ⟨w.heap.size, 0, none⟩ = false := by simp [World.frozen?, hcell]
    have f1 : w4.frozen? ⟨w.heap.size, 1, none⟩ = false := by simp [World.frozen?, hcell]
    have HTA := Lib.hid hta; have HBB := Lib.hid hbb; have HC := Lib.hid hcell
    clear hw4 hta hbb hcell
    go_wp2_with fail
    have hend := table_end HTA.out.atoms HTA.out.terms HTA.out.pres HBB.out HC.out (.slice x1 48 x2) (.slice (some ⟨w3.heap.size, 0, none⟩) 20 20)
    exact bodyPost_ret (v := .agg #[.slice x1 48 x2, .slice (some ⟨w3.heap.size, 0, none⟩) 20 20]) (by simp [results, Tryd.results62, go_sem, r0, r1]) rfl ⟨_, _, _, _, _, rfl, hend.1, hend.2⟩
end Go.Proofs.YtaakaajcpjiccaaDoor
