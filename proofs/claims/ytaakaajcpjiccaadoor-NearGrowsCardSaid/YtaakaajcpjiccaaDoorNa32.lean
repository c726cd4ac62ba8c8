/-
  A trie in plain words: how it is built. A trie at a world: what a link, and a word, do to it. trie.Build.
-/
import Derived.Test.YtaakaajcpjiccaaDoorNa29
import Derived.Test.YtaakaajcpjiccaaDoorNa31
set_option linter.unusedVariables false
set_option linter.unusedSimpArgs false
namespace Go.Proofs.YtaakaajcpjiccaaDoor
open Go.RowKit
open Go.Proofs

def linkT (T : List NodeD) (i : Nat) (c : UInt8) (k : Nat) : List NodeD := T.modify i fun n => ⟨n.kids ++ [(c, k)], n.word⟩
def stepT (T : List NodeD) (i : Nat) (c : UInt8) : List NodeD × Nat := match childF T i c with
  | some k => (T, k)
  | none => (linkT (T ++ [⟨[], none⟩]) i c T.length, T.length)
def walkT (T : List NodeD) (i : Nat) (cs : List UInt8) : List NodeD × Nat := cs.foldl (fun p c => stepT p.1 p.2 c) (T, i)
def wordT (T : List NodeD) (i n : Nat) : List NodeD := T.modify i fun d => ⟨d.kids, d.word.or (some n)⟩
def addT (T : List NodeD) (w : List UInt8) (n : Nat) : List NodeD := wordT (walkT T 0 w).1 (walkT T 0 w).2 n
/-- The trie of the first k words. -/
def buildK (L : List ByteArray) : Nat → List NodeD
  | 0 => [⟨[], none⟩]
  | k + 1 => addT (buildK L k) (L[k]?.getD ⟨#[]⟩).toList k
def buildT (L : List ByteArray) : List NodeD := buildK L L.length
theorem linkT_length (T : List NodeD) (i : Nat) (c : UInt8) (k : Nat) : (linkT T i c k).length = T.length := List.length_modify ..
theorem wordT_length (T : List NodeD) (i n : Nat) : (wordT T i n).length = T.length := List.length_modify ..
theorem stepT_length (T : List NodeD) (i : Nat) (c : UInt8) : T.length ≤ (stepT T i c).1.length ∧ (stepT T i c).1.length ≤ T.length + 1 := by
  unfold stepT
  cases childF T i c with
  | some k => exact ⟨Nat.le_refl _, Nat.le_succ _⟩
  | none => simp [linkT_length]
theorem getD_link {T : List NodeD} {i : Nat} {c : UInt8} {k : Nat} (h : i < T.length) (j : Nat) : ((linkT T i c k)[j]?.getD default) = if j = i then ⟨(T[j]?.getD default).kids ++ [(c, k)], (T[j]?.getD default).word⟩ else T[j]?.getD default := by
  unfold linkT
  rw [List.getElem?_modify]
  by_cases e : j = i
  · subst e
    simp [h]
  · have : ¬ i = j := fun h => e h.symm
    simp [e, this]
theorem getD_snoc (T : List NodeD) (j : Nat) : ((T ++ [⟨[], none⟩])[j]?.getD default) = T[j]?.getD default := by
  by_cases h : j < T.length
  · rw [List.getElem?_append_left h]
  · rw [List.getElem?_append_right (by omega), List.getElem?_eq_none (by omega : T.length ≤ j)]
    cases hj : j - T.length with
    | zero => rfl
    | succ n => rfl
theorem getD_word {T : List NodeD} {i n : Nat} (j : Nat) : ((wordT T i n)[j]?.getD default) = if j = i ∧ i < T.length then ⟨(T[j]?.getD default).kids, (T[j]?.getD default).word.or (some n)⟩ else T[j]?.getD default := by
  unfold wordT
  rw [List.getElem?_modify]
  by_cases e : j = i
  · subst e
    by_cases h : j < T.length
    · simp [h]
    · simp [h]
  · have : ¬ i = j := fun h => e h.symm
    simp [e, this]
theorem child_link {T : List NodeD} {i : Nat} {c : UInt8} (h : i < T.length) (hn : childF T i c = none) (k j : Nat) (d : UInt8) : childF (linkT (T ++ [⟨[], none⟩]) i c k) j d = if j = i ∧ d = c then some k else childF T j d := by
  unfold childF at hn ⊢
  rw [getD_link (by rw [List.length_append]; omega), getD_snoc]
  by_cases e : j = i
  · subst e
    rw [if_pos rfl, kidOf_snoc]
    by_cases e2 : d = c
    · subst e2
      rw [hn]
      simp
    · have : (c == d) = false := by rw [beq_eq_false_iff_ne]; exact fun h => e2 h.symm
      simp [this, e2]
  · simp [e]
theorem child_word (T : List NodeD) (i n j : Nat) (d : UInt8) : childF (wordT T i n) j d = childF T j d := by
  unfold childF
  rw [getD_word]
  by_cases e : j = i ∧ i < T.length
  · rw [if_pos e]
  · rw [if_neg e]
theorem step_some {T : List NodeD} {i : Nat} {c : UInt8} {k : Nat} (h : childF T i c = some k) : stepT T i c = (T, k) := by unfold stepT; rw [h]
theorem step_none {T : List NodeD} {i : Nat} {c : UInt8} (h : childF T i c = none) : stepT T i c = (linkT (T ++ [⟨[], none⟩]) i c T.length, T.length) := by unfold stepT; rw [h]
/-- Children lie behind their nodes; each is a node. -/
def WfT (T : List NodeD) : Prop := 0 < T.length ∧ (∀ i c k, childF T i c = some k → i < k ∧ k < T.length) ∧ ∀ i : Nat, (T[i]?.getD default).kids.length < T.length
theorem wf_root : WfT [⟨[], none⟩] := ⟨by simp, fun i c k h => by
  unfold childF at h
  rcases i with _ | i <;> simp [kidOf] at h
  all_goals simp [default, instInhabitedNodeD] at h, fun i => by rcases i with _ | i <;> simp [default, instInhabitedNodeD]⟩
theorem wf_step {T : List NodeD} (h : WfT T) {i : Nat} (hi : i < T.length) (c : UInt8) : WfT (stepT T i c).1 ∧ (stepT T i c).2 < (stepT T i c).1.length := by
  cases hc : childF T i c with
  | some k =>
    rw [step_some hc]
    exact ⟨h, (h.2.1 i c k hc).2⟩
  | none =>
    rw [step_none hc]
    have hkl : ∀ j : Nat, ((linkT (T ++ [⟨[], none⟩]) i c T.length)[j]?.getD default).kids.length < (linkT (T ++ [⟨[], none⟩]) i c T.length).length := fun j => by
      rw [getD_link (by rw [List.length_append]; omega), getD_snoc, linkT_length, List.length_append, List.length_singleton]
      have := h.2.2 j
      by_cases e : j = i
      · rw [if_pos e]; simp only [List.length_append, List.length_singleton]; omega
      · rw [if_neg e]; omega
    refine ⟨⟨by simp [linkT_length], fun j d k hk => ?_, hkl⟩, by simp [linkT_length]⟩
    simp only at hk ⊢
    rw [child_link hi hc] at hk
    rw [linkT_length, List.length_append, List.length_singleton]
    by_cases e : j = i ∧ d = c
    · rw [if_pos e] at hk
      cases hk
      omega
    · rw [if_neg e] at hk
      have := h.2.1 j d k hk
      omega
theorem walkT_snoc (T : List NodeD) (i : Nat) (cs : List UInt8) (c : UInt8) : walkT T i (cs ++ [c]) = stepT (walkT T i cs).1 (walkT T i cs).2 c := by
  unfold walkT
  rw [List.foldl_append]
  rfl
theorem wf_walk {T : List NodeD} (h : WfT T) {i : Nat} (hi : i < T.length) (cs : List UInt8) : WfT (walkT T i cs).1 ∧ (walkT T i cs).2 < (walkT T i cs).1.length ∧ T.length ≤ (walkT T i cs).1.length ∧ (walkT T i cs).1.length ≤ T.length + cs.length := by
  induction cs generalizing T i with
  | nil => exact ⟨h, hi, Nat.le_refl _, Nat.le_refl _⟩
  | cons c cs ih =>
    have h1 := wf_step h hi c
    have h2 := stepT_length T i c
    have h3 := ih h1.1 h1.2
    have e : walkT T i (c :: cs) = walkT (stepT T i c).1 (stepT T i c).2 cs := rfl
    rw [e]
    simp only [List.length_cons]
    exact ⟨h3.1, h3.2.1, by omega, by omega⟩
theorem wf_word {T : List NodeD} (h : WfT T) (i n : Nat) : WfT (wordT T i n) := ⟨by rw [wordT_length]; exact h.1, fun j d k hk => by rw [child_word] at hk; rw [wordT_length]; exact h.2.1 j d k hk, fun j => by
    rw [wordT_length, getD_word]
    have := h.2.2 j
    by_cases e : j = i ∧ i < T.length
    · rw [if_pos e]; exact this
    · rw [if_neg e]; exact this⟩
theorem wf_build (L : List ByteArray) (m : Nat) (hL : ∀ s ∈ L, s.size ≤ m) : ∀ k, WfT (buildK L k) ∧ (buildK L k).length ≤ 1 + k * m
  | 0 => ⟨wf_root, by simp [buildK]⟩
  | k + 1 => by
    obtain ⟨h1, h2⟩ := wf_build L m hL k
    have h3 := wf_walk h1 h1.1 (L[k]?.getD ⟨#[]⟩).toList
    refine ⟨wf_word h3.1 _ _, ?_⟩
    show (wordT _ _ _).length ≤ _
    rw [wordT_length]
    have h4 : (L[k]?.getD (⟨#[]⟩ : ByteArray)).toList.length ≤ m := by
      rw [size_list]
      by_cases hk : k < L.length
      · rw [List.getElem?_eq_getElem hk]
        exact hL _ (List.getElem_mem hk)
      · rw [List.getElem?_eq_none (by omega)]
        exact Nat.zero_le _
    rw [Nat.succ_mul]
    omega
end Go.Proofs.YtaakaajcpjiccaaDoor
namespace Go.Proofs.YtaakaajcpjiccaaDoor
open Go.RowKit
open Go.Proofs

theorem zip_modify {T : List NodeD} {mbs : List Nat} (f : NodeD → NodeD) (i : Nat) : mbs.zip (T.modify i f) = (mbs.zip T).modify i fun p => (p.1, f p.2) := by
  induction T generalizing mbs i with
  | nil => cases mbs <;> cases i <;> rfl
  | cons t T ih =>
    cases mbs with
    | nil => cases i <;> rfl
    | cons m mbs =>
      cases i with
      | zero => rfl
      | succ i => simp only [List.modify_succ_cons, List.zip_cons_cons, ih]
theorem flat_set {α : Type} (f : α → List Value) : ∀ (l : List α) (i : Nat) (x : α), (∀ a, (f a).length = 2) → ∀ u, i < l.length → (∀ a, l[i]? = some a → f x = (f a).set 1 u) → (l.set i x).flatMap f = (l.flatMap f).set (i * 2 + 1) u
  | [], i, x, h2, u, hi, h => by simp at hi
  | a :: l, 0, x, h2, u, hi, h => by
    simp only [List.set_cons_zero, List.flatMap_cons, Nat.zero_mul, Nat.zero_add]
    rw [h a rfl, List.set_append_left _ _ (by rw [h2]; omega)]
  | a :: l, i + 1, x, h2, u, hi, h => by
    simp only [List.set_cons_succ, List.flatMap_cons]
    rw [flat_set f l i x h2 u (by simpa using hi) (fun b hb => h b (by simpa using hb)), List.set_append_right _ _ (by rw [h2]; omega), h2]
    congr 2
    omega
theorem TrieAt.linked {w w' : World} {B tp : Nat} {mbs : List Nat} {T : List NodeD} (h : TrieAt w B tp mbs T) {i : Nat} (hi : i < T.length) {c : UInt8} {k : Nat} (hg : w.grownBy w' (some (mbs[i]'(by rw [h.len]; exact hi)))) (hk : KidsAt w' (mbs[i]'(by rw [h.len]; exact hi)) ((T[i]).kids ++ [(c, k)])) : TrieAt w' B tp mbs (linkT T i c k) := by
  have hmi : i < mbs.length := by rw [h.len]; exact hi
  have hz : i < (mbs.zip T).length := by rw [List.length_zip, h.len, Nat.min_self]; exact hi
  have hmap : ∃ es cl, w.heap[mbs[i]]? = some (.map es cl) := by
    have := h.kids _ (List.getElem_mem hz)
    rw [List.getElem_zip] at this
    obtain ⟨D, ⟨es, clock, hb, r⟩, r2⟩ := this
    exact ⟨es, clock, hb⟩
  obtain ⟨es, cl, hmap⟩ := hmap
  obtain ⟨a, cc, hb, hown⟩ := h.box
  have hne1 : tp ≠ mbs[i] := fun e => by rw [e, hmap] at hb; cases hb
  have hne2 : some mbs[i] ≠ (Value.slice a T.length cc).ownBlock := by
    rcases hown.2 with ⟨e, _⟩ | ⟨g, cap, cur, e, _, hgb, _⟩
    · rw [e]; simp [Value.ownBlock]
    · rw [e]
      intro e'
      have : mbs[i] = g := by simpa [Value.ownBlock] using e'
      rw [this, hgb] at hmap
      cases hmap
  unfold linkT
  refine ⟨⟨a, cc, ?_, ?_⟩, by rw [List.length_modify]; exact h.len, h.asc, fun p hp => ?_, by rw [List.length_modify]; exact h.small⟩
  · rw [List.length_modify]
    exact (hg.block tp (Array.getElem?_eq_some_iff.1 hb).1 (fun e => hne1 (Option.some.inj e))).trans hb
  · rw [List.length_modify, zip_modify]
    have e : ((mbs.zip T).modify i fun p => (p.1, (⟨p.2.kids ++ [(c, k)], p.2.word⟩ : NodeD))).flatMap nodeV = (mbs.zip T).flatMap nodeV := by
      have h1 : ∀ (l : List (Nat × NodeD)) (j : Nat), (l.modify j fun p => (p.1, (⟨p.2.kids ++ [(c, k)], p.2.word⟩ : NodeD))).flatMap nodeV = l.flatMap nodeV := by
        intro l
        induction l with
        | nil => intro j; cases j <;> rfl
        | cons x l ih => intro j; cases j <;> simp [ih, nodeV]
      exact h1 _ _
    rw [e]
    exact hown.kept hg (by
      rcases hb2 : (Value.slice a T.length cc).ownBlock with _ | g
      · exact .inl rfl
      · exact .inr (fun e => hne2 (by rw [hb2, e])))
  · rw [zip_modify] at hp
    obtain ⟨j, hj, rfl⟩ := List.getElem_of_mem hp
    rw [List.length_modify] at hj
    rw [List.getElem_modify]
    have hjT : j < T.length := by rw [List.length_zip, h.len, Nat.min_self] at hj; exact hj
    have hjm : j < mbs.length := by rw [h.len]; exact hjT
    by_cases e : i = j
    · subst e
      rw [if_pos rfl, List.getElem_zip]
      exact hk
    · rw [if_neg e, List.getElem_zip]
      have hkj := h.kids _ (List.getElem_mem hj)
      rw [List.getElem_zip] at hkj
      have hne : mbs[j] ≠ mbs[i] := by
        intro e2
        rcases Nat.lt_or_gt_of_ne e with h1 | h1
        · have := List.pairwise_iff_getElem.1 h.asc i j hmi hjm h1; omega
        · have := List.pairwise_iff_getElem.1 h.asc j i hjm hmi h1; omega
      exact hkj.heap (hg.block _ hkj.lt (fun e3 => hne (Option.some.inj e3)))
theorem TrieAt.worded {w : World} {B tp : Nat} {mbs : List Nat} {T : List NodeD} (h : TrieAt w B tp mbs T) {i : Nat} (hi : i < T.length) (n : Nat) {g cc : Nat} (hb : w.heap[tp]? = some (.cells #[.slice (some ⟨g, 0, none⟩) T.length cc] 79 (0, 0))) (hw : (T[i]).word = none) :
    TrieAt (w.setCell ⟨g, i * 2 + 1, none⟩ (.int .i64 (n : Int))) B tp mbs (wordT T i n) ∧ Below B w (w.setCell ⟨g, i * 2 + 1, none⟩ (.int .i64 (n : Int))) := by
  have hz : i < (mbs.zip T).length := by rw [List.length_zip, h.len, Nat.min_self]; exact hi
  obtain ⟨a, cc', hb', hown⟩ := h.box
  rw [hb] at hb'
  cases hb'
  obtain ⟨hst, hgr⟩ := World.ownsRow.stored hown (i * 2 + 1) (.int .i64 (n : Int))
  have hBg : B ≤ g := (World.ownsRow.lt hown g rfl).1
  have hgb : ∃ cur, w.heap[g]? = some (.cells cur 84 (0, 0)) := by
    rcases hown.2 with ⟨e, _⟩ | ⟨g2, cap, cur, e, _, hgb, _⟩
    · cases e
    · cases e; exact ⟨cur, hgb⟩
  obtain ⟨cur, hgb⟩ := hgb
  have hne1 : tp ≠ g := fun e => by
    rw [e, hgb] at hb
    simp only [Option.some.injEq, Obj.cells.injEq] at hb
    exact absurd hb.2.1 (by decide)
  refine ⟨⟨⟨some ⟨g, 0, none⟩, cc, ?_, ?_⟩, ?_, h.asc, fun p hp => ?_, ?_⟩, (Below.refl _ _).setCell hBg _⟩
  · rw [wordT_length]
    exact (Below.heap_setCell w ⟨g, i * 2 + 1, none⟩ _ tp hne1).trans hb
  · rw [wordT_length]
    unfold wordT
    rw [zip_modify]
    have e : ((mbs.zip T).modify i fun p => (p.1, (⟨p.2.kids, p.2.word.or (some n)⟩ : NodeD))) = (mbs.zip T).set i (((mbs.zip T)[i]).1, ⟨((mbs.zip T)[i]).2.kids, some n⟩) := by
      rw [List.modify_eq_set, List.getElem?_eq_getElem hz]
      simp [hw]
    rw [e, flat_set nodeV (mbs.zip T) i _ (fun _ => rfl) (.int .i64 (n : Int)) hz (fun x hx => by
      rw [List.getElem?_eq_getElem hz] at hx
      cases hx
      rfl)]
    exact hst
  · rw [wordT_length]; exact h.len
  · have hkj : KidsAt w p.1 p.2.kids := by
      unfold wordT at hp
      rw [zip_modify] at hp
      obtain ⟨j, hj, rfl⟩ := List.getElem_of_mem hp
      rw [List.length_modify] at hj
      rw [List.getElem_modify]
      have := h.kids _ (List.getElem_mem hj)
      by_cases e : i = j
      · rw [if_pos e]; exact this
      · rw [if_neg e]; exact this
    refine hkj.heap (Below.heap_setCell w ⟨g, i * 2 + 1, none⟩ _ p.1 fun e => ?_)
    obtain ⟨D, ⟨es, clock, hbm, r⟩, r2⟩ := hkj
    rw [e, hgb] at hbm
    cases hbm
  · rw [wordT_length]; exact h.small
end Go.Proofs.YtaakaajcpjiccaaDoor
namespace Go.Proofs.YtaakaajcpjiccaaDoor
open Go.RowKit
open Go.Proofs
open Go.Maps (Keyed)

/-- A row of strings that is read. -/
def StrsAt (w : World) (v : Value) (L : List ByteArray) : Prop := ∃ a c, v = .slice a L.length c ∧ (L = [] ∨ ∃ g, a = some ⟨g, 0, none⟩ ∧ g < w.heap.size ∧ ∀ j, j < L.length → w.cell? ⟨g, j, none⟩ = some (.string (L[j]?.getD ⟨#[]⟩)))
theorem OwnS.strs {w : World} {B : Nat} {v : Value} {L : List ByteArray} (h : OwnS w B v L) : StrsAt w v L := by
  obtain ⟨a, c, rfl, h2⟩ := h.sl
  refine ⟨a, c, rfl, ?_⟩
  rcases h2 with h2 | ⟨g, rfl, h3⟩
  · exact .inl h2
  · by_cases hL : L = []
    · exact .inl hL
    · have h0 : 0 < L.length := List.length_pos_iff.2 hL
      exact .inr ⟨g, rfl, World.block_lt_of_cell? w ⟨g, 0, none⟩ (h3 0 h0), h3⟩
theorem StrsAt.below {w w' : World} {v : Value} {L : List ByteArray} (h : StrsAt w v L) (hb : Below w.heap.size w w') : StrsAt w' v L := by
  obtain ⟨a, c, rfl, h2⟩ := h
  refine ⟨a, c, rfl, ?_⟩
  rcases h2 with h2 | ⟨g, rfl, hg, h3⟩
  · exact .inl h2
  · exact .inr ⟨g, rfl, by have := hb.size; omega, fun j hj => cell_under (h3 j hj) hb⟩
theorem wordT_some {T : List NodeD} {i n x : Nat} (h : i < T.length) (hw : (T[i]).word = some x) : wordT T i n = T := by
  unfold wordT
  rw [List.modify_eq_set, List.getElem?_eq_getElem h]
  simp only [Option.map_some, Option.getD_some]
  apply List.ext_getElem?
  intro j
  rw [List.getElem?_set]
  by_cases e : i = j
  · subst e
    simp only [h, if_true]
    rw [List.getElem?_eq_getElem h]
    cases hT : T[i] with
    | mk k w =>
      rw [hT] at hw
      simp only at hw
      simp [hw]
  · simp [e]
theorem keepT_set {ts : List TypeId} {w : World} {g j : Nat} {t : TypeId} (v : Value) (hb : BlockT w g t) (ht : t ∈ ts) : KeepT ts w (w.setCell ⟨g, j, none⟩ v) := by
  obtain ⟨cs, fr, hb⟩ := hb
  refine ⟨by simp [World.setCell], fun k cs' t' fr' hn hk => ?_⟩
  refine (Below.heap_setCell w ⟨g, j, none⟩ v k (fun e => ?_)).trans hk
  simp only at e
  rw [e, hb] at hk
  cases hk
  exact hn ht
theorem TrieAt.nodes {w : World} {B tp : Nat} {mbs : List Nat} {T : List NodeD} (h : TrieAt w B tp mbs T) {g c : Nat} (hb : w.heap[tp]? = some (.cells #[.slice (some ⟨g, 0, none⟩) T.length c] 79 (0, 0))) : BlockT w g 84 := by
  obtain ⟨a, c', hb', hown⟩ := h.box
  rw [hb] at hb'
  cases hb'
  rcases hown.2 with ⟨e, _⟩ | ⟨g2, cap, cur, e, _, hgb, _⟩
  · cases e
  · cases e; exact ⟨cur, _, hgb⟩
theorem TrieAt.nofroz {w : World} {B tp : Nat} {mbs : List Nat} {T : List NodeD} (h : TrieAt w B tp mbs T) {g c : Nat} (hb : w.heap[tp]? = some (.cells #[.slice (some ⟨g, 0, none⟩) T.length c] 79 (0, 0))) (j : Nat) : w.frozen? ⟨g, j, none⟩ = false := by
  obtain ⟨a, c', hb', hown⟩ := h.box
  rw [hb] at hb'
  cases hb'
  exact World.ownsRow.frozenAt hown j
theorem bytes_of2 (s : ByteArray) (w : World) : ∃ cap W', (convert 9 44 (.string s)).run Tryd.prog w = .ok (.slice (some ⟨w.heap.size, 0, none⟩) s.size cap) W' ∧ (∀ j (h : j < s.size), W'.cell? ⟨w.heap.size, j, none⟩ = some (.int .u8 (s[j].toNat : Int))) ∧ Below w.heap.size w W' ∧ W'.heap.size = w.heap.size + 1 ∧ BlockT W' w.heap.size 5 := by
  have hb := heap_alloc_new w.drew (.cells (bytesRow s (grownCap w s.size 0 5)) 5 ((bytesRow s (grownCap w s.size 0 5)).size, (bytesRow s (grownCap w s.size 0 5)).size + 1))
  have hz : w.drew.heap.size = w.heap.size := rfl
  rw [hz] at hb
  refine ⟨_, _, run_bytes_of_string w 9 44 5 s Tryd.underlying9 Tryd.underlying44 Tryd.underlying5, fun j h => ?_, ((Below.refl _ _).drew).alloc (Nat.le_refl _) _, by simp, ⟨_, _, hb⟩⟩
  simp only [World.cell?, hb]
  exact bytesRow_at s _ j h
theorem take_snoc8 (s : ByteArray) (j : Nat) (h : j < s.size) : s.toList.take (j + 1) = s.toList.take j ++ [s[j]] := by
  rw [← (list_at8 s).2 j h (by rw [size_list]; exact h), List.take_append_getElem]
abbrev trieTs : List TypeId := [79, 84]
set_option maxRecDepth 100000 in
set_option maxHeartbeats 4000000 in
theorem build_any (L : List ByteArray) (v : Value) (w : World) (hv : StrsAt w v L) (hL : ∀ s ∈ L, s.size ≤ 40) (hn : L.length ≤ 2000) : Calls Tryd.prog 29 #[v] w fun e w' =>
    e = .returned (.pointer (some ⟨w.heap.size, 0, none⟩)) ∧ ∃ mbs, TrieAt w' w.heap.size w.heap.size mbs (buildT L) ∧ Below w.heap.size w w' ∧ ∀ m ∈ mbs, w.heap.size ≤ m := by
  obtain ⟨a, c, rfl, hv2⟩ := hv
  have HV := Lib.hid hv2
  have HWF := fun k => Lib.hid (wf_build L 40 hL k)
  have HL := Lib.hid hL
  clear hv2 hL
  have hW0 : TrieAt (w.alloc (.cells #[.slice none 0 0] 79)) w.heap.size w.heap.size [] [] :=
    ⟨⟨none, 0, heap_alloc_new _ _, World.ownsRow_nil _ _ _ _⟩, rfl, List.Pairwise.nil, fun p hp => by simp at hp, by simp⟩
  have HG := Lib.hid (grow_any _ hW0 (by simp) (Nat.le_refl _) (by simp))
  clear hW0
  go_enter Tryd.func29, Tryd.ntmps29
  go_wp2_with (go_at_call 41; refine HG.out.mono ?_; rintro e w1 ⟨rfl, hT1, hB1, -⟩)
  have HB1 : Hid (Below w.heap.size w w1) := ((Below.refl _ _).alloc (Nat.le_refl _) _).trans hB1
  have HT1 := Lib.hid hT1
  clear hT1 hB1 HG
  go_wp2_with fail
  have htp : w.heap.size < w1.heap.size := by obtain ⟨_, _, hb, _⟩ := HT1.out.box; exact (Array.getElem?_eq_some_iff.1 hb).1
  go_loopw [17] (fun i wr => ∃ (k : Nat) (mbs : List Nat), k ≤ L.length ∧ i = .int .i64 (k : Int) ∧ TrieAt wr w.heap.size w.heap.size mbs (buildK L k) ∧ Below w.heap.size w wr ∧ ∀ m ∈ mbs, w.heap.size ≤ m) (fun i _ => L.length - (intOf i).toNat)
  case atStart => exact ⟨0, _, Nat.zero_le _, rfl, HT1.out, HB1.out, fun m hm => by simp at hm; omega⟩
  case round =>
    obtain ⟨k, mbs, hk, rfl, hT, hB, hMB⟩ := hrel
    have HMB0 := Lib.hid hMB
    clear hMB
    have HT := Lib.hid hT
    have HB := Lib.hid hB
    clear hT hB
    by_cases hlt : k < L.length
    · obtain ⟨s, hs⟩ : ∃ s, L[k]?.getD (⟨#[]⟩ : ByteArray) = s := ⟨_, rfl⟩
      have hs40 : s.size ≤ 40 := by
        rw [← hs, List.getElem?_eq_getElem hlt]
        exact HL.out _ (List.getElem_mem hlt)
      rcases HV.out with h0 | ⟨g, rfl, hgl, hcs⟩
      · rw [h0] at hlt; simp at hlt
      have hc := (HB.out.cell (p := ⟨g, k, none⟩) hgl).trans (hcs k hlt)
      rw [hs] at hc
      have hlz : (k : Int) < (L.length : Int) := by omega
      have HS := Lib.hid hs
      have hszr : w.heap.size ≤ wr.heap.size := HB.out.size
      clear hs hcs
      obtain ⟨cb, w2, hrun, hcs2, hb2, hz2, hbt⟩ := bytes_of2 s wr
      have HCS := Lib.hid hcs2
      have HB2 := Lib.hid hb2
      have hz3 : w2.heap.size = wr.heap.size + 1 := hz2
      have hBT : Hid (BlockT w2 wr.heap.size 5) := hbt
      clear hcs2 hb2 hz2 hbt
      go_wp2_with fail
      go_loopw [6, 25] (fun v6 v25 wx => ∃ (j : Nat) (mb2 : List Nat), j ≤ s.size ∧ v25 = .int .i64 (j : Int) ∧ v6 = .int .i64 ((walkT (buildK L k) 0 (s.toList.take j)).2 : Nat) ∧ TrieAt wx w.heap.size w.heap.size mb2 (walkT (buildK L k) 0 (s.toList.take j)).1 ∧ Below w.heap.size w wx ∧ KeepT trieTs w2 wx ∧ ∀ m ∈ mb2, w.heap.size ≤ m) (fun _ v25 _ => s.size - (intOf v25).toNat)
      case atStart => exact ⟨0, _, by omega, rfl, rfl, HT.out.below HB2.out, HB.out.trans (HB2.out.mono hszr), KeepT.refl _ _, HMB0.out⟩
      case round =>
        obtain ⟨j, mb2, hj, rfl, rfl, hT, hB, hKT, hMB⟩ := hrel
        have HMB1 := Lib.hid hMB
        clear hMB
        have HTX := Lib.hid hT
        have HBX := Lib.hid hB
        have HKX := Lib.hid hKT
        clear hT hB hKT
        have hw := HWF k
        have hwfk := hw.out.1
        have hlen0 : (buildK L k).length ≤ 1 + k * 40 := hw.out.2
        have hwf := wf_walk hwfk hwfk.1 (s.toList.take j)
        have hlj : (s.toList.take j).length ≤ 40 := Nat.le_trans (List.length_take_le' _ _) (by rw [size_list]; exact hs40)
        obtain ⟨T, hTd⟩ : ∃ T, (walkT (buildK L k) 0 (s.toList.take j)).1 = T := ⟨_, rfl⟩
        obtain ⟨at0, hat⟩ : ∃ a, (walkT (buildK L k) 0 (s.toList.take j)).2 = a := ⟨_, rfl⟩
        have HTD := Lib.hid hTd
        have HAT := Lib.hid hat
        rw [hTd, hat] at hwf
        rw [hTd] at HTX
        rw [hat]
        have hTl : T.length < 100000 := by omega
        have hati : at0 < T.length := hwf.2.1
        have HWT := Lib.hid hwf.1
        clear hTd hat hwf hlen0 hlj hwfk hw
        by_cases hjl : j < s.size
        · have hjz : (j : Int) < (s.size : Int) := by omega
          have hcj := HKX.out.cell (by decide) hBT.out (HCS.out j hjl)
          have HNX : Hid (walkT (buildK L k) 0 (s.toList.take (j + 1)) = stepT T at0 s[j]) := by show _ = _; rw [take_snoc8 s j hjl, walkT_snoc, HTD.out, HAT.out]
          generalize s[j] = cj at hcj HNX
          have HCH := Lib.hid (child_any at0 cj wr HTX.out hati)
          cases hch : childF T at0 cj with
          | some q =>
            have HCV : Hid (childV T at0 cj = .tuple #[.int .i64 (q : Nat), .bool true]) := by show _ = _; unfold childV; rw [hch]; rfl
            have HST := Lib.hid (step_some hch)
            go_wp2_with (go_at_call 42; refine HCH.out.mono ?_; rintro e w' ⟨rfl, hw⟩; rw [hw, HCV.out])
            go_roundw
            case rel => exact ⟨j + 1, mb2, by omega, by go_num, by rw [HNX.out, HST.out], by rw [HNX.out, HST.out]; exact HTX.out, HBX.out, HKX.out, HMB1.out⟩
            case measure => simp [intOf]; omega
          | none =>
            have HCV : Hid (childV T at0 cj = .tuple #[.int .i64 0, .bool false]) := by show _ = _; unfold childV; rw [hch]; rfl
            have HST := Lib.hid (step_none hch)
            have HGR := Lib.hid (grow_any wr HTX.out hTl (Nat.le_refl _) HBX.out.size)
            have hwf2 := HWT.out.2.2 at0
            go_wp2_with (go_at_call 42; refine HCH.out.mono ?_; rintro e w' ⟨rfl, hw⟩; rw [hw, HCV.out])
            refine HGR.out.mono ?_
            rintro e w3 ⟨rfl, hT3, hB3, hK3⟩
            have HB3 := Lib.hid hB3
            have HK3 := Lib.hid hK3
            have HT3 := Lib.hid hT3
            have hat3 : at0 < (T ++ [(⟨[], none⟩ : NodeD)]).length := (by rw [List.length_append]; omega)
            obtain ⟨gn, cc, hbx, kk0, kk1, hkk, hBg⟩ := hT3.node at0 hat3
            obtain ⟨mbi, hmbi⟩ : ∃ m, (mb2 ++ [wr.heap.size])[at0]'(by rw [hT3.len]; exact hat3) = m := ⟨_, rfl⟩
            rw [hmbi] at kk0 hkk
            have HMB : Hid ((mb2 ++ [wr.heap.size])[at0]? = some mbi) := by show _ = _; rw [← hmbi]; exact List.getElem?_eq_getElem _
            have hbx0 := cellB hbx (j := 0) rfl
            have hlz3 : (at0 : Int) < ((T ++ [(⟨[], none⟩ : NodeD)]).length : Int) := (by omega)
            generalize hlen3 : (T ++ [(⟨[], none⟩ : NodeD)]).length = len3 at hbx0 hlz3
            obtain ⟨D, ho, hD1, hD2, hD3⟩ := hkk
            have HD1 := Lib.hid hD1
            have HD2 := Lib.hid hD2
            have HD3 := Lib.hid hD3
            clear hbx kk1 hmbi hD1 hD2 hD3 hB3 hK3 hT3
            have hml : (T ++ [(⟨[], none⟩ : NodeD)])[at0].kids.length < Go.maxLen := by
              rw [List.getElem_append_left hati]
              have := hwf2
              rw [List.getElem?_eq_getElem hati] at this
              simp only [Option.getD_some] at this
              unfold Go.maxLen
              omega
            have hwfl : (Lit.int .i64 (T.length : Int)).wf = true := by
              have h1 : IntKind.i64.min = -9223372036854775808 := by decide
              have h2 : IntKind.i64.max = 9223372036854775807 := by decide
              simp only [Lit.wf, h1, h2, Bool.and_eq_true, decide_eq_true_eq]
              omega
            go_wp2_with (at_mapUpdate; refine wpList_mapUpdate_own _ rfl _ _ _ 82 rfl 5 3 kid_keyed Tryd.underlying82 _ mbi _ D rfl ho hml _ _ _ rfl rfl (keyB_of cj) _ [] (plainElem_int Tryd.underlying3 hwfl) ?_; intro w4 hown4 hg4)
            go_roundw
            case rel =>
              have hlen4 : at0 < (mb2 ++ [wr.heap.size]).length := by rw [HT3.out.len]; exact hat3
              have hmbe : (mb2 ++ [wr.heap.size])[at0]'hlen4 = mbi := by have := HMB.out; rw [List.getElem?_eq_getElem hlen4] at this; exact Option.some.inj this
              have hkid : kidOf ((T ++ [(⟨[], none⟩ : NodeD)])[at0]'hat3).kids cj = none := by
                rw [List.getElem_append_left hati]
                have := hch
                unfold childF at this
                rw [List.getElem?_eq_getElem hati] at this
                exact this
              have hput := KidsAt.put ho HD1.out HD2.out HD3.out hkid (k := T.length) (by omega) hown4
              have hlk := HT3.out.linked hat3 (c := cj) (k := T.length) (w' := w4) (by rw [hmbe]; exact hg4) (by rw [hmbe]; exact hput)
              have hmapb : ∃ es cl, w3.heap[mbi]? = some (.map es cl) := by obtain ⟨es, clock, hb, r⟩ := ho; exact ⟨es, clock, hb⟩
              have hmball : ∀ m ∈ mb2 ++ [wr.heap.size], w.heap.size ≤ m := fun m hm => by
                rw [List.mem_append, List.mem_singleton] at hm
                rcases hm with hm | rfl
                · exact HMB1.out m hm
                · exact HBX.out.size
              have hmb0 : w.heap.size ≤ mbi := hmball _ (List.mem_of_getElem? HMB.out)
              refine ⟨j + 1, mb2 ++ [wr.heap.size], by omega, by go_num, by rw [HNX.out, HST.out], by rw [HNX.out, HST.out]; exact hlk, (HBX.out.trans HB3.out).grown hg4 (HBX.out.trans HB3.out).size (fun q e => by cases e; exact hmb0), (HKX.out.trans HK3.out).trans ⟨hg4.size, fun q cs t fr _ hq => ?_⟩, hmball⟩
              obtain ⟨es, cl, hmapb⟩ := hmapb
              refine (hg4.block q (Array.getElem?_eq_some_iff.1 hq).1 (fun e => ?_)).trans hq
              cases e
              rw [hq] at hmapb
              cases hmapb
            case measure => simp [intOf]; omega
        · obtain rfl : j = s.size := by omega
          have HFULL : Hid (buildK L (k + 1) = wordT T at0 k) := by
            show _ = _
            have e : s.toList.take s.size = s.toList := List.take_of_length_le (by rw [size_list]; exact Nat.le_refl _)
            have h1 := HTD.out
            have h2 := HAT.out
            rw [e] at h1 h2
            show addT (buildK L k) (L[k]?.getD ⟨#[]⟩).toList k = _
            unfold addT
            rw [HS.out, h1, h2]
          obtain ⟨gn, cc, hbx, kk0, kk1, hkk, hBg⟩ := HTX.out.node at0 hati
          have HBX0 := Lib.hid hbx
          have hbx0 := cellB hbx (j := 0) rfl
          have hfrz := HTX.out.nofroz hbx (at0 * 2 + 1)
          have hlz3 : (at0 : Int) < (T.length : Int) := by omega
          clear hbx kk0 hkk
          cases hwd : (T[at0]).word with
          | none =>
            have HNEW := Lib.hid (HTX.out.worded hati k HBX0.out hwd)
            have HBN := Lib.hid (HTX.out.nodes HBX0.out)
            rw [hwd] at kk1
            simp only [wordI] at kk1
            generalize T.length = len3 at hbx0 hlz3
            go_wp2_with fail
            go_roundw
            case rel => exact ⟨k + 1, mb2, by omega, by go_num, by rw [HFULL.out]; exact HNEW.out.1, HBX.out.trans HNEW.out.2, HMB1.out⟩
            case measure => simp [intOf]; omega
          | some q =>
            have HW2 := Lib.hid (wordT_some (n := k) hati hwd)
            rw [hwd] at kk1
            simp only [wordI] at kk1
            have hq : ((q : Int) == -1) = false := by rw [beq_eq_false_iff_ne]; omega
            generalize T.length = len3 at hbx0 hlz3
            go_wp2_with fail
            go_roundw
            case rel => exact ⟨k + 1, mb2, by omega, by go_num, by rw [HFULL.out, HW2.out]; exact HTX.out, HBX.out, HMB1.out⟩
            case measure => simp [intOf]; omega
    · obtain rfl : k = L.length := by omega
      go_wp2_with fail
      go_ret
      exact ⟨rfl, mbs, HT.out, HB.out, HMB0.out⟩
end Go.Proofs.YtaakaajcpjiccaaDoor
