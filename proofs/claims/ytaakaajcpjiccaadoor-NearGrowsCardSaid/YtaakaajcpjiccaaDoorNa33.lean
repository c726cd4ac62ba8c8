/-
  near.walker.walk: the plain words; what is kept. A trie in plain words: what is found in it.
-/
import Derived.Test.YtaakaajcpjiccaaDoorNa32
set_option linter.unusedVariables false
set_option linter.unusedSimpArgs false
namespace Go.Proofs.YtaakaajcpjiccaaDoor
open Go.RowKit
open Go.Proofs

/-- What a node tells by itself. -/
def hereL (T : List NodeD) (w : List UInt8) (k : Int) (i : Nat) (t : List UInt8) : List (Nat × Nat) := match (T[i]?.getD default).word with
  | some n => if (levR w.reverse t : Int) ≤ k then [(n, levR w.reverse t)] else []
  | none => []
/-- What is told from a node on, behind the bytes t (the last one first). -/
def walkL (T : List NodeD) (w : List UInt8) (k : Int) : Nat → Nat → List UInt8 → List (Nat × Nat)
  | 0, _, _ => []
  | f + 1, i, t => hereL T w k i t ++ (keysS (T[i]?.getD default).kids).flatMap fun c => if k < (leastN (rowR w (c :: t)) : Int) then [] else walkL T w k f ((childF T i c).getD 0) (c :: t)
def downL (T : List NodeD) (w : List UInt8) (k : Int) (f i : Nat) (t : List UInt8) (c : UInt8) : List (Nat × Nat) := if k < (leastN (rowR w (c :: t)) : Int) then [] else walkL T w k f ((childF T i c).getD 0) (c :: t)
theorem walkL_succ (T : List NodeD) (w : List UInt8) (k : Int) (f i : Nat) (t : List UInt8) : walkL T w k (f + 1) i t = hereL T w k i t ++ (keysS (T[i]?.getD default).kids).flatMap (downL T w k f i t) := rfl
def encW (x : Nat × Nat) : Array Value := #[.int .i64 (x.1 : Int), .int .i64 (x.2 : Int)]
def okW (L pre : List (Nat × Nat)) (x : Nat × Nat) : Prop := ∃ rest, L = pre ++ x :: rest
def partW (L pre : List (Nat × Nat)) : Prop := ∃ rest, L = pre ++ rest
abbrev walkTs : List TypeId := [67, 54, 4, 3, 5]
structure SafeW (S : Nat → Obj → Prop) (B0 : Nat) (mbs : List Nat) : Prop where
  own : ∀ k o, ownP B0 walkTs k o → S k o
  trie : ∀ k cs t fr, t ∈ trieTs → S k (.cells cs t fr)
  maps : ∀ m ∈ mbs, ∀ es c, S m (.map es c)
theorem TrieAt.keepP {S : Nat → Obj → Prop} {B0 : Nat} {mbs : List Nat} (hS : SafeW S B0 mbs) {w w' : World} {B tp : Nat} {T : List NodeD} (h : TrieAt w B tp mbs T) (hk : KeepP S w w') : TrieAt w' B tp mbs T := by
  obtain ⟨⟨a, c, hb1, hown⟩, hl, ha, hks, hs⟩ := h
  refine ⟨⟨a, c, hk.same tp _ hb1 (hS.trie _ _ _ _ (by decide)), hown.1, ?_⟩, hl, ha, fun p hp => ?_, hs⟩
  · rcases hown.2 with h1 | ⟨g, cap, cur, e, hB, hgb, r⟩
    · exact .inl h1
    · exact .inr ⟨g, cap, cur, e, hB, hk.same g _ hgb (hS.trie _ _ _ _ (by decide)), r⟩
  · have h1 := hks p hp
    obtain ⟨D, ⟨es, clock, hb, r⟩, r2⟩ := h1
    have hm : p.1 ∈ mbs := (List.of_mem_zip hp).1
    exact ⟨D, ⟨es, clock, hk.same _ _ hb (hS.maps _ hm _ _), r⟩, r2⟩
theorem OwnN.keepP {S : Nat → Obj → Prop} {B0 : Nat} {mbs : List Nat} (hS : SafeW S B0 mbs) {w w' : World} {v : Value} {xs : List Nat} (h : OwnN w B0 v xs) (hk : KeepP S w w') : OwnN w' B0 v xs := by
  unfold OwnN at h ⊢
  refine ⟨h.1, ?_⟩
  rcases h.2 with h1 | ⟨g, cap, cur, e, hB, hgb, r⟩
  · exact .inl h1
  · exact .inr ⟨g, cap, cur, e, hB, hk.same g _ hgb (hS.own _ _ (ownP_cells hB (by decide))), r⟩
theorem keepP_from {S : Nat → Obj → Prop} {B0 B : Nat} {mbs : List Nat} (hS : SafeW S B0 mbs) (hB : B0 ≤ B) {w w' : World} (hk : KeepP S w w') : KeepsFrom B w w' := ⟨hk.size, fun k o hkB ho hc => hk.same k o ho (hS.own _ _ ⟨by omega, .inl hc⟩)⟩
/-- What is kept from a world on, as an invariant. -/
theorem own_keepP {β : Type} {B : Nat} {S : Nat → Obj → Prop} {V : World} (hB : V.heap.size ≤ B) : OwnFrom B (fun (_ : β) X => KeepP S V X) := fun _ X Y row hs hg hr =>
  ⟨Nat.le_trans hs.size hg.size, fun k o hk hS => by
    have h1 := hs.same k o hk hS
    have hkl := (Array.getElem?_eq_some_iff.1 hk).1
    exact (hg.block k (Array.getElem?_eq_some_iff.1 h1).1 (fun e => by have := (hr k e.symm).1; omega)).trans h1, hg.os.trans hs.os, hg.tape.trans hs.tape, hg.output.trans hs.output⟩
theorem stabP_below' {β : Type} {B : Nat} {ts : List TypeId} {J : β → World → Prop} (h : StabP B ts J) {s : β} {A C : World} (hs : J s A) (hb : Below A.heap.size A C) : J s C := h s A C hs (KeepP.below hb)
theorem leastN_le (w t : List UInt8) : ∀ x ∈ rowR w t, x ≤ w.length + t.length := fun x hx => by
  unfold rowR at hx
  rw [List.mem_map] at hx
  obtain ⟨i, _, rfl⟩ := hx
  exact row_bd w t i
end Go.Proofs.YtaakaajcpjiccaaDoor
namespace Go.Proofs.YtaakaajcpjiccaaDoor
open Go.RowKit
open Go.Proofs

def reachT (T : List NodeD) : Nat → List UInt8 → Option Nat
  | i, [] => some i
  | i, c :: cs => (childF T i c).bind fun j => reachT T j cs
def wordF (T : List NodeD) (j : Nat) : Option Nat := (T[j]?.getD default).word
def wordAt (T : List NodeD) (p : List UInt8) : Option Nat := (reachT T 0 p).bind (wordF T)
theorem reach_append (T : List NodeD) : ∀ (p q : List UInt8) (i : Nat), reachT T i (p ++ q) = (reachT T i p).bind fun j => reachT T j q
  | [], q, i => rfl
  | c :: p, q, i => by
    simp only [List.cons_append, reachT]
    cases childF T i c with
    | none => rfl
    | some j => exact reach_append T p q j
theorem reach_snoc (T : List NodeD) (p : List UInt8) (c : UInt8) (i : Nat) : reachT T i (p ++ [c]) = (reachT T i p).bind fun j => childF T j c := by
  rw [reach_append]
  congr 1
  funext j
  simp only [reachT]
  cases childF T j c <;> rfl
/-- No node is a child twice. -/
def ParT (T : List NodeD) : Prop := ∀ i j c d k, childF T i c = some k → childF T j d = some k → i = j ∧ c = d
theorem reach_lt {T : List NodeD} (h : WfT T) : ∀ (p : List UInt8) (i j : Nat), i < T.length → reachT T i p = some j → i ≤ j ∧ j < T.length
  | [], i, j, hi, e => by cases e; exact ⟨Nat.le_refl _, hi⟩
  | c :: p, i, j, hi, e => by
    simp only [reachT] at e
    cases hc : childF T i c with
    | none => rw [hc] at e; cases e
    | some m =>
      rw [hc] at e
      have h1 := h.2.1 i c m hc
      have h2 := reach_lt h p m j h1.2 e
      omega
theorem reach_inj {T : List NodeD} (h : WfT T) (hp : ParT T) : ∀ (n : Nat) (p q : List UInt8) (k : Nat), p.length ≤ n → reachT T 0 p = some k → reachT T 0 q = some k → p = q := by
  intro n
  induction n with
  | zero =>
    intro p q k hn h1 h2
    have hp0 : p = [] := List.eq_nil_of_length_eq_zero (by omega)
    subst hp0
    cases h1
    rcases List.eq_nil_or_concat q with rfl | ⟨q', c, rfl⟩
    · rfl
    · rw [List.concat_eq_append, reach_snoc] at h2
      cases hr : reachT T 0 q' with
      | none => rw [hr] at h2; cases h2
      | some m => rw [hr] at h2; have := h.2.1 m c 0 h2; omega
  | succ n ih =>
    intro p q k hn h1 h2
    rcases List.eq_nil_or_concat p with rfl | ⟨p', c, rfl⟩
    · exact ih [] q k (by simp) h1 h2
    · rcases List.eq_nil_or_concat q with rfl | ⟨q', d, rfl⟩
      · cases h2
        rw [List.concat_eq_append, reach_snoc] at h1
        cases hr : reachT T 0 p' with
        | none => rw [hr] at h1; cases h1
        | some m => rw [hr] at h1; have := h.2.1 m c 0 h1; omega
      · rw [List.concat_eq_append] at h1 h2 hn ⊢
        rw [List.concat_eq_append]
        rw [reach_snoc] at h1 h2
        cases hr : reachT T 0 p' with
        | none => rw [hr] at h1; cases h1
        | some m =>
          cases hr2 : reachT T 0 q' with
          | none => rw [hr2] at h2; cases h2
          | some m2 =>
            rw [hr] at h1
            rw [hr2] at h2
            obtain ⟨rfl, rfl⟩ := hp m m2 c d k h1 h2
            rw [ih p' q' m (by rw [List.length_append, List.length_singleton] at hn; omega) hr hr2]
/-! What a step adds. -/
structure ExtT (T T1 : List NodeD) : Prop where
  le : T.length ≤ T1.length
  old : ∀ p k, reachT T 0 p = some k → reachT T1 0 p = some k
  new : ∀ p k, reachT T1 0 p = some k → reachT T 0 p = some k ∨ (T.length ≤ k ∧ wordF T1 k = none)
  word : ∀ k, k < T.length → wordF T1 k = wordF T k
theorem ExtT.refl (T : List NodeD) : ExtT T T := ⟨Nat.le_refl _, fun _ _ h => h, fun _ _ h => .inl h, fun _ _ => rfl⟩
theorem ExtT.trans {A B C : List NodeD} (hA : WfT A) (hB : WfT B) (h : ExtT A B) (k : ExtT B C) : ExtT A C :=
  ⟨Nat.le_trans h.le k.le, fun p m e => k.old p m (h.old p m e), fun p m e => by
    rcases k.new p m e with e1 | ⟨e1, e2⟩
    · rcases h.new p m e1 with e2 | ⟨e2, e3⟩
      · exact .inl e2
      · exact .inr ⟨e2, by rw [k.word m (reach_lt hB p 0 m hB.1 e1).2]; exact e3⟩
    · exact .inr ⟨Nat.le_trans h.le e1, e2⟩, fun m hm => by rw [k.word m (Nat.lt_of_lt_of_le hm h.le), h.word m hm]⟩
theorem ExtT.at {T T1 : List NodeD} (hT : WfT T) (h : ExtT T T1) (p : List UInt8) : wordAt T1 p = wordAt T p := by
  unfold wordAt
  cases hr : reachT T 0 p with
  | some k =>
    rw [h.old p k hr]
    exact h.word k (reach_lt hT p 0 k hT.1 hr).2
  | none =>
    cases hr2 : reachT T1 0 p with
    | none => rfl
    | some k =>
      rcases h.new p k hr2 with e | ⟨_, e⟩
      · rw [hr] at e; cases e
      · exact e
theorem word_link {T : List NodeD} {i : Nat} {c : UInt8} {k : Nat} (h : i < T.length) (j : Nat) : wordF (linkT (T ++ [⟨[], none⟩]) i c k) j = wordF T j := by
  unfold wordF
  rw [getD_link (by rw [List.length_append]; omega), getD_snoc]
  by_cases e : j = i
  · rw [if_pos e]
  · rw [if_neg e]
theorem step_ext {T : List NodeD} (h : WfT T) {i : Nat} (hi : i < T.length) (c : UInt8) : ExtT T (stepT T i c).1 := by
  cases hc : childF T i c with
  | some k => rw [step_some hc]; exact ExtT.refl T
  | none =>
    rw [step_none hc]
    have hch := child_link hi hc T.length
    have hlast : ∀ d, childF (linkT (T ++ [⟨[], none⟩]) i c T.length) T.length d = none := fun d => by
      rw [hch, if_neg (by omega)]
      unfold childF
      rw [List.getElem?_eq_none (Nat.le_refl _)]
      rfl
    have hold : ∀ (p : List UInt8) (j k : Nat), reachT T j p = some k → reachT (linkT (T ++ [⟨[], none⟩]) i c T.length) j p = some k := by
      intro p
      induction p with
      | nil => intro j k e; exact e
      | cons d p ih =>
        intro j k e
        simp only [reachT] at e ⊢
        cases hd : childF T j d with
        | none => rw [hd] at e; cases e
        | some m =>
          rw [hd] at e
          have : ¬ (j = i ∧ d = c) := fun ⟨e1, e2⟩ => by rw [e1, e2, hc] at hd; cases hd
          rw [hch, if_neg this, hd]
          exact ih m k e
    have hnew : ∀ (p : List UInt8) (j k : Nat), reachT (linkT (T ++ [⟨[], none⟩]) i c T.length) j p = some k → reachT T j p = some k ∨ k = T.length := by
      intro p
      induction p with
      | nil => intro j k e; exact .inl e
      | cons d p ih =>
        intro j k e
        simp only [reachT] at e ⊢
        rw [hch] at e
        by_cases hjd : j = i ∧ d = c
        · rw [if_pos hjd] at e
          cases p with
          | nil => cases e; exact .inr rfl
          | cons d2 p =>
            simp only [Option.bind_some, reachT, hlast, Option.bind_none] at e
            cases e
        · rw [if_neg hjd] at e
          cases hd : childF T j d with
          | none => rw [hd] at e; cases e
          | some m =>
            rw [hd] at e
            exact ih m k e
    refine ⟨by simp [linkT_length], fun p k e => hold p 0 k e, fun p k e => ?_, fun k hk => word_link hi k⟩
    rcases hnew p 0 k e with e | e
    · exact .inl e
    · subst e
      exact .inr ⟨Nat.le_refl _, by
        rw [word_link hi]
        unfold wordF
        rw [List.getElem?_eq_none (Nat.le_refl _)]
        rfl⟩
theorem step_par {T : List NodeD} (h : WfT T) (hp : ParT T) {i : Nat} (hi : i < T.length) (c : UInt8) : ParT (stepT T i c).1 := by
  cases hc : childF T i c with
  | some k => rw [step_some hc]; exact hp
  | none =>
    rw [step_none hc]
    intro a b d e k h1 h2
    simp only at h1 h2
    rw [child_link hi hc] at h1 h2
    by_cases e1 : a = i ∧ d = c
    · rw [if_pos e1] at h1
      cases h1
      by_cases e2 : b = i ∧ e = c
      · exact ⟨e1.1.trans e2.1.symm, e1.2.trans e2.2.symm⟩
      · rw [if_neg e2] at h2
        have := h.2.1 b e _ h2
        omega
    · rw [if_neg e1] at h1
      by_cases e2 : b = i ∧ e = c
      · rw [if_pos e2] at h2
        cases h2
        have := h.2.1 a d _ h1
        omega
      · rw [if_neg e2] at h2
        exact hp a b d e k h1 h2
theorem step_reach {T : List NodeD} (h : WfT T) {i : Nat} (hi : i < T.length) (c : UInt8) (p : List UInt8) (hr : reachT T 0 p = some i) : reachT (stepT T i c).1 0 (p ++ [c]) = some (stepT T i c).2 := by
  have h1 := (step_ext h hi c).old p i hr
  rw [reach_snoc, h1]
  cases hc : childF T i c with
  | some k => rw [step_some hc]; exact hc
  | none =>
    rw [step_none hc]
    simp only [Option.bind_some]
    rw [child_link hi hc, if_pos ⟨rfl, rfl⟩]
theorem walk_all {T : List NodeD} (h : WfT T) (hp : ParT T) (cs : List UInt8) : ∀ {i : Nat} (p : List UInt8), i < T.length → reachT T 0 p = some i →
    ExtT T (walkT T i cs).1 ∧ ParT (walkT T i cs).1 ∧ reachT (walkT T i cs).1 0 (p ++ cs) = some (walkT T i cs).2 := by
  induction cs generalizing T with
  | nil => intro i p hi hr; exact ⟨ExtT.refl _, hp, by rw [List.append_nil]; exact hr⟩
  | cons c cs ih =>
    intro i p hi hr
    have h1 := wf_step h hi c
    have h2 := step_ext h hi c
    obtain ⟨h3, h4, h5⟩ := ih h1.1 (step_par h hp hi c) (p ++ [c]) h1.2 (step_reach h hi c p hr)
    have e : walkT T i (c :: cs) = walkT (stepT T i c).1 (stepT T i c).2 cs := rfl
    rw [e]
    exact ⟨h2.trans h h1.1 h3, h4, by simpa using h5⟩
theorem reach_word (T : List NodeD) (i n : Nat) : ∀ (p : List UInt8) (j : Nat), reachT (wordT T i n) j p = reachT T j p
  | [], j => rfl
  | c :: p, j => by
    simp only [reachT]
    rw [child_word]
    cases childF T j c with
    | none => rfl
    | some m => exact reach_word T i n p m
theorem add_at {T : List NodeD} (h : WfT T) (hp : ParT T) (w : List UInt8) (n : Nat) (p : List UInt8) : wordAt (addT T w n) p = if p = w then (wordAt T w).or (some n) else wordAt T p := by
  obtain ⟨h1, h2, h3⟩ := walk_all h hp w [] h.1 rfl
  have hw := wf_walk h h.1 w
  rw [List.nil_append] at h3
  rw [← h1.at h p, ← h1.at h w]
  unfold addT
  generalize (walkT T 0 w).1 = T1 at h1 h2 h3 hw ⊢
  generalize (walkT T 0 w).2 = e at h3 hw ⊢
  unfold wordAt
  rw [reach_word]
  have hwd : ∀ j, wordF (wordT T1 e n) j = if j = e then (wordF T1 e).or (some n) else wordF T1 j := fun j => by
    unfold wordF
    rw [getD_word]
    by_cases hj : j = e
    · subst hj; rw [if_pos ⟨rfl, hw.2.1⟩, if_pos rfl]
    · rw [if_neg (fun h => hj h.1), if_neg hj]
  by_cases hpw : p = w
  · subst hpw
    rw [if_pos rfl, h3]
    simp only [Option.bind_some]
    rw [hwd, if_pos rfl]
  · rw [if_neg hpw]
    cases hr : reachT T1 0 p with
    | none => rfl
    | some j =>
      simp only [Option.bind_some]
      rw [hwd, if_neg]
      rintro rfl
      exact hpw (reach_inj hw.1 h2 p.length p w j (Nat.le_refl _) hr h3)
theorem add_par {T : List NodeD} (h : WfT T) (hp : ParT T) (w : List UInt8) (n : Nat) : ParT (addT T w n) := by
  obtain ⟨h1, h2, h3⟩ := walk_all h hp w [] h.1 rfl
  intro a b c d k e1 e2
  unfold addT at e1 e2
  rw [child_word] at e1 e2
  exact h2 a b c d k e1 e2
/-- The first of the first k words that is p. -/
def firstK (L : List ByteArray) (k : Nat) (p : List UInt8) : Option Nat := (List.range k).find? fun n => (L[n]?.getD ⟨#[]⟩).toList == p
theorem par_root : ParT [⟨[], none⟩] := fun i j c d k h1 h2 => by
  have := wf_root.2.1 i c k h1
  simp at this
  omega
theorem build_at (L : List ByteArray) (m : Nat) (hL : ∀ s ∈ L, s.size ≤ m) : ∀ k, ParT (buildK L k) ∧ ∀ p, wordAt (buildK L k) p = firstK L k p
  | 0 => ⟨par_root, fun p => by
      unfold wordAt firstK
      cases hr : reachT (buildK L 0) 0 p with
      | none => rfl
      | some j =>
        have := (reach_lt wf_root p 0 j wf_root.1 hr).2
        simp at this
        subst this
        rfl⟩
  | k + 1 => by
    obtain ⟨h1, h2⟩ := build_at L m hL k
    have hwf := (wf_build L m hL k).1
    refine ⟨add_par hwf h1 _ _, fun p => ?_⟩
    show wordAt (addT (buildK L k) (L[k]?.getD ⟨#[]⟩).toList k) p = _
    rw [add_at hwf h1, h2, h2]
    unfold firstK
    rw [List.range_succ, List.find?_append]
    by_cases e : p = (L[k]?.getD (⟨#[]⟩ : ByteArray)).toList
    · subst e
      rw [if_pos rfl]
      simp
    · rw [if_neg e]
      have : ((L[k]?.getD (⟨#[]⟩ : ByteArray)).toList == p) = false := by rw [beq_eq_false_iff_ne]; exact fun h => e h.symm
      simp [this]
end Go.Proofs.YtaakaajcpjiccaaDoor
