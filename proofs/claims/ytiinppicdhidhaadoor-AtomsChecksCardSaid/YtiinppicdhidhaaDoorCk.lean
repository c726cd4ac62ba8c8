/-
  What atoms.Check asks of the codes of a row, in plain words: each is a code or empty, the first is not empty, and no earlier row has one of them.
-/
import Derived.Test.YtiinppicdhidhaaDoorCx
set_option linter.unusedVariables false
set_option linter.unusedSimpArgs false
namespace Go.Proofs.YtiinppicdhidhaaDoor
open Go.RowKit
open Go.Proofs

theorem note_inj (i j : Nat) (hi : i < 5) (hj : j < 5) (h : noteB i = noteB j) : i = j := by
  have : ∀ i, i < 5 → ∀ j, j < 5 → noteB i = noteB j → i = j := by decide
  exact this i hi j hj h
theorem hasK_cons (L : List (ByteArray × ByteArray)) (a b x y : ByteArray) : hasK ((a, b) :: L) x y = ((decide (a = x) && decide (b = y)) || hasK L x y) := by simp [hasK]
theorem has_take (c : Nat → ByteArray) (L : List (ByteArray × ByteArray)) (n : Nat) (hn : n < 5) (s : ByteArray) : ∀ k, k ≤ 5 → hasK (takeK c L k).2 (noteB n) s = ((decide (n < k) && decide (c n = s)) || hasK L (noteB n) s)
  | 0, _ => by simp [takeK]
  | k + 1, hk => by
    rw [takeK_L, hasK_cons, has_take c L n hn s k (by omega)]
    by_cases h : k = n
    · subst h
      have e1 : decide (k < k) = false := by simp
      have e2 : decide (k < k + 1) = true := by simp
      rw [e1, e2]
      simp
    · have h1 : decide (noteB k = noteB n) = false := decide_eq_false fun e => h (note_inj k n (by omega) hn e)
      have e : decide (n < k + 1) = decide (n < k) := by congr 1; exact propext ⟨fun _ => by omega, fun _ => by omega⟩
      rw [h1, e]
      simp
/-- Whether a row's code k is empty, or none of the earlier rows has it. -/
def freshK (cs : Nat → Nat → ByteArray) (i k : Nat) : Bool := (cs i k).toList.isEmpty || (List.range i).all fun j => !decide (cs j k = cs i k)
/-- What is asked of the codes of row i. -/
def codesOk (cs : Nat → Nat → ByteArray) (i : Nat) : Bool := !(cs i 0).toList.isEmpty && (List.range 5).all fun k => codeB ((k : Int) + 1) (cs i k) && freshK cs i k
theorem has_keys (cs : Nat → Nat → ByteArray) (n : Nat) (hn : n < 5) (s : ByteArray) : ∀ i, hasK (keysOf cs i) (noteB n) s = (List.range i).any fun j => decide (cs j n = s)
  | 0 => rfl
  | i + 1 => by
    rw [keysOf, has_take _ _ n hn s 5 (Nat.le_refl _), has_keys cs n hn s i, List.range_succ, List.any_append]
    have : decide (n < 5) = true := decide_eq_true hn
    rw [this, Bool.true_and, Bool.or_comm]
    simp
theorem take_ok (c : Nat → ByteArray) (L : List (ByteArray × ByteArray)) : ∀ k, k ≤ 5 → (takeK c L k).1 = (!(c 0).toList.isEmpty && (List.range k).all fun m => codeB ((m : Int) + 1) (c m) && ((c m).toList.isEmpty || !hasK L (noteB m) (c m)))
  | 0, _ => by simp [takeK]
  | k + 1, hk => by
    rw [takeK_fst, take_ok c L k (by omega), has_take c L k (by omega) (c k) k (by omega), List.range_succ, List.all_append]
    have e : decide (k < k) = false := by simp
    rw [e]
    simp only [Bool.false_and, Bool.false_or, List.all_cons, List.all_nil, Bool.and_true, Bool.and_assoc]
theorem any_all (l : List Nat) (p : Nat → Bool) : (!l.any p) = l.all fun j => !p j := by
  induction l with
  | nil => rfl
  | cons a l ih => simp [ih]
theorem take_codes5 (cs : Nat → Nat → ByteArray) (i : Nat) : (takeK (cs i) (keysOf cs i) 5).1 = codesOk cs i := by
  rw [take_ok _ _ 5 (Nat.le_refl _), codesOk]
  congr 1
  have : ∀ l : List Nat, (∀ m ∈ l, m < 5) → (l.all fun m => codeB ((m : Int) + 1) (cs i m) && ((cs i m).toList.isEmpty || !hasK (keysOf cs i) (noteB m) (cs i m))) = l.all fun k => codeB ((k : Int) + 1) (cs i k) && freshK cs i k := by
    intro l
    induction l with
    | nil => intro _; rfl
    | cons a l ih =>
      intro h
      rw [List.all_cons, List.all_cons, ih fun m hm => h m (by simp [hm]), has_keys cs a (h a (by simp)) _ i, any_all]
      rfl
  exact this _ fun m hm => List.mem_range.1 hm
theorem okA_eq (t : List AtomD) (T : Nat → List (Int × Int)) (i : Nat) : okA t T i = (codesOk (csA t) i && worthS t (T i) i) := by rw [okA, take_codes5]
theorem okP_eq (p : List PrefD) (i : Nat) : okP p i = (codesOk (csP p) i && (decide (-30 ≤ (p[i]?.getD default).ten) && decide ((p[i]?.getD default).ten ≤ 30))) := by rw [okP, take_codes5]
/-! Codes as lists of bytes. -/
def codeLB (n : Nat) (l : List UInt8) : Bool := decide (l.length ≤ 8) && l.all (okC8 (foldB (n : Int)))
theorem codeB_list (n : Nat) (l : List UInt8) : codeB ((n : Int) + 1) ⟨l.toArray⟩ = codeLB (n + 1) l := by
  unfold codeB codeLB allOk
  rw [ByteArray.toList_eq]
  rfl
def codesOkL (cs : Nat → Nat → List UInt8) (i : Nat) : Bool := !(cs i 0).isEmpty && (List.range 5).all fun k => codeLB (k + 1) (cs i k) && ((cs i k).isEmpty || (List.range i).all fun j => !decide (cs j k = cs i k))
theorem bytes_inj {a b : List UInt8} : (⟨a.toArray⟩ : ByteArray) = ⟨b.toArray⟩ ↔ a = b := ⟨fun h => by injection h with h; simpa using h, fun h => by rw [h]⟩
theorem codesOk_list (cs : Nat → Nat → ByteArray) (cl : Nat → Nat → List UInt8) (i : Nat) (h : ∀ j, j ≤ i → ∀ k, k < 5 → cs j k = ⟨(cl j k).toArray⟩) : codesOk cs i = codesOkL cl i := by
  unfold codesOk codesOkL
  have e : ∀ l : List UInt8, (⟨l.toArray⟩ : ByteArray).toList = l := fun l => by rw [ByteArray.toList_eq]
  rw [h i (Nat.le_refl _) 0 (by omega), e]
  congr 1
  have : ∀ l : List Nat, (∀ m ∈ l, m < 5) → (l.all fun k => codeB ((k : Int) + 1) (cs i k) && freshK cs i k) = l.all fun k => codeLB (k + 1) (cl i k) && ((cl i k).isEmpty || (List.range i).all fun j => !decide (cl j k = cl i k)) := by
    intro l
    induction l with
    | nil => intro _; rfl
    | cons a l ih =>
      intro hl
      have ha := hl a (by simp)
      rw [List.all_cons, List.all_cons, ih fun m hm => hl m (by simp [hm]), freshK, h i (Nat.le_refl _) a ha, codeB_list, e]
      congr 3
      have : ∀ q : List Nat, (∀ j ∈ q, j < i) → (q.all fun j => !decide (cs j a = ⟨(cl i a).toArray⟩)) = q.all fun j => !decide (cl j a = cl i a) := by
        intro q
        induction q with
        | nil => intro _; rfl
        | cons b q ih =>
          intro hq
          have : decide (cs b a = ⟨(cl i a).toArray⟩) = decide (cl b a = cl i a) := by
            rw [h b (Nat.le_of_lt (hq b (by simp))) a ha]
            exact decide_eq_decide.2 bytes_inj
          rw [List.all_cons, List.all_cons, ih fun m hm => hq m (by simp [hm]), this]
      exact this _ fun m hm => List.mem_range.1 hm
  exact this _ fun m hm => List.mem_range.1 hm
end Go.Proofs.YtiinppicdhidhaaDoor
