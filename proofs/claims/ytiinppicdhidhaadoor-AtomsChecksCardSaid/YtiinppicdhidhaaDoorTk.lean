/-
  (atoms.seen).take: whether codes are right; it puts them down.
-/
import Derived.Test.YtiinppicdhidhaaDoorMp
import Derived.Test.YtiinppicdhidhaaDoorTb
set_option linter.unusedVariables false
set_option linter.unusedSimpArgs false
namespace Go.Proofs.YtiinppicdhidhaaDoor
open Go.RowKit
open Go.Proofs

/-- The notations' names. -/
def noteB (i : Nat) : ByteArray := [(⟨#[115, 101, 110, 115, 105, 116, 105, 118, 101]⟩ : ByteArray), ⟨#[102, 111, 108, 100, 101, 100]⟩, ⟨#[115, 104, 111, 119, 110]⟩, ⟨#[105, 115, 111]⟩, ⟨#[97, 110, 115, 105]⟩].getD i ⟨#[]⟩
theorem noteB_size (i : Nat) : (noteB i).size ≤ maxLen := by
  unfold maxLen
  rcases i with _ | _ | _ | _ | _ | i <;> first | decide | (simp [noteB]; decide)
def NotesAt (w : World) : Prop := ∀ i, i < 5 → w.cell? ⟨1, i, none⟩ = some (.string (noteB i))
theorem NotesAt.grown {w w' : World} {b : Nat} (h : NotesAt w) (hg : w.grownBy w' (some b)) (hb : b ≠ 1) : NotesAt w' :=
  fun i hi => hg.cell (h i hi) (fun e => hb (Option.some.inj e).symm)
/-- After k rounds. -/
def takeK (cs : Nat → ByteArray) (L : List (ByteArray × ByteArray)) : Nat → Bool × List (ByteArray × ByteArray)
  | 0 => (!(cs 0).toList.isEmpty, L)
  | k + 1 => ((takeK cs L k).1 && codeB (k + 1) (cs k) && ((cs k).toList.isEmpty || !hasK (takeK cs L k).2 (noteB k) (cs k)), (noteB k, cs k) :: (takeK cs L k).2)
theorem takeK_fst (cs : Nat → ByteArray) (L : List (ByteArray × ByteArray)) (k : Nat) : (takeK cs L (k + 1)).1 = ((takeK cs L k).1 && codeB (k + 1) (cs k) && ((cs k).toList.isEmpty || !hasK (takeK cs L k).2 (noteB k) (cs k))) := rfl
theorem takeK_L (cs : Nat → ByteArray) (L : List (ByteArray × ByteArray)) : ∀ k, (takeK cs L (k + 1)).2 = (noteB k, cs k) :: (takeK cs L k).2 := fun _ => rfl
def codesV (cs : Nat → ByteArray) : Value := .agg #[.string (cs 0), .string (cs 1), .string (cs 2), .string (cs 3), .string (cs 4)]
theorem tk0 (s0 s1 s2 s3 s4 : ByteArray) (w : World) : (Instr.index 30 (.agg #[.string s0, .string s1, .string s2, .string s3, .string s4]) (.int .i64 0)).run Tryd.prog w = .ok (.string s0) w := by kernel_rfl
theorem tk1 (s0 s1 s2 s3 s4 : ByteArray) (w : World) : (Instr.index 30 (.agg #[.string s0, .string s1, .string s2, .string s3, .string s4]) (.int .i64 1)).run Tryd.prog w = .ok (.string s1) w := by kernel_rfl
theorem tk2 (s0 s1 s2 s3 s4 : ByteArray) (w : World) : (Instr.index 30 (.agg #[.string s0, .string s1, .string s2, .string s3, .string s4]) (.int .i64 2)).run Tryd.prog w = .ok (.string s2) w := by kernel_rfl
theorem tk3 (s0 s1 s2 s3 s4 : ByteArray) (w : World) : (Instr.index 30 (.agg #[.string s0, .string s1, .string s2, .string s3, .string s4]) (.int .i64 3)).run Tryd.prog w = .ok (.string s3) w := by kernel_rfl
theorem tk4 (s0 s1 s2 s3 s4 : ByteArray) (w : World) : (Instr.index 30 (.agg #[.string s0, .string s1, .string s2, .string s3, .string s4]) (.int .i64 4)).run Tryd.prog w = .ok (.string s4) w := by kernel_rfl
set_option maxRecDepth 100000 in
set_option maxHeartbeats 600000 in
theorem take_any (b n : Nat) (L : List (ByteArray × ByteArray)) (cs : Nat → ByteArray) (w : World) (hS : SeenAt w b n L) (hN : NotesAt w) (hcs : ∀ i, (cs i).size ≤ maxLen) (hb : b ≠ 1) (hn : n < 100000) :
    Calls Tryd.prog 23 #[.map (some b), codesV cs] w fun e w' => e = .returned (.bool (takeK cs L 5).1) ∧ SeenAt w' b (n + 5) (takeK cs L 5).2 ∧ w.grownBy w' (some b) := by
  have HS := Lib.hid hS
  have HN := Lib.hid hN
  clear hS hN
  unfold codesV
  obtain ⟨z0, hz0⟩ : ∃ z, (cs 0).toList.isEmpty = z := ⟨_, rfl⟩
  obtain ⟨z1, hz1⟩ : ∃ z, (cs 1).toList.isEmpty = z := ⟨_, rfl⟩
  obtain ⟨z2, hz2⟩ : ∃ z, (cs 2).toList.isEmpty = z := ⟨_, rfl⟩
  obtain ⟨z3, hz3⟩ : ∃ z, (cs 3).toList.isEmpty = z := ⟨_, rfl⟩
  obtain ⟨z4, hz4⟩ : ∃ z, (cs 4).toList.isEmpty = z := ⟨_, rfl⟩
  go_enter Tryd.func23, Tryd.ntmps23
  go_wp2
  generalize hy0 : (!z0) = y0
  have HY := Lib.hid hy0
  clear hy0
  go_loopw [5, 13] (fun ok i wr => ∃ k : Nat, k ≤ 5 ∧ i = .int .i64 (k : Int) ∧ ok = .bool (takeK cs L k).1 ∧ SeenAt wr b (n + k) (takeK cs L k).2 ∧ NotesAt wr ∧ w.grownBy wr (some b))
    (fun _ i _ => 5 - (intOf i).toNat)
  case atStart => exact ⟨0, by omega, rfl, by rw [← HY.out, ← hz0]; rfl, (HS.out.heap (Below.heap_alloc _ _ _ HS.out.lt)).mono (by omega), HN.out.grown (World.grownBy_alloc _ _ (some b)) hb, World.grownBy_alloc _ _ (some b)⟩
  case round =>
    obtain ⟨k, hk, rfl, rfl, hs, hnt, hg⟩ := hrel
    have HS2 := Lib.hid hs
    have HN2 := Lib.hid hnt
    have HG := Lib.hid hg
    clear hs hnt hg
    have hk' : k = 0 ∨ k = 1 ∨ k = 2 ∨ k = 3 ∨ k = 4 ∨ k = 5 := by omega
    rcases hk' with rfl | rfl | rfl | rfl | rfl | rfl
    · have hn0 := HN2.out 0 (by omega)
      have hi := tk0 (cs 0) (cs 1) (cs 2) (cs 3) (cs 4)
      have HZ := noteB_size 0
      obtain ⟨nb, hnb⟩ : ∃ nb, noteB 0 = nb := ⟨_, rfl⟩
      rw [hnb] at hn0 HZ
      obtain ⟨o, ho⟩ : ∃ o, (takeK cs L 0).1 = o := ⟨_, rfl⟩
      have HSA : SeenAt (wr.alloc (.cells #[.string nb, .string (cs 0)] 67)) b (n + 0) (takeK cs L 0).2 := HS2.out.heap (Below.heap_alloc _ _ _ HS2.out.lt)
      have HSB := Lib.hid HSA
      have HNB := Lib.hid hnb
      rw [ho]
      have HO := Lib.hid ho
      clear ho HSA hnb
      cases o
      · go_wp2_with (first | (at_mapUpdate; refine wpList_seen rfl _ _ _ rfl b _ _ rfl HSB.out (by unfold maxLen; omega) nb (cs 0) rfl rfl HZ (hcs 0) ?_; intro w3 hS3 hg3; have HS3 := Lib.hid hS3; have HG3 := Lib.hid hg3; clear hS3 hg3) | go_in)
        go_roundw
        case rel =>
          refine ⟨0 + 1, by omega, by go_num, ?_, ?_, (HN2.out.grown (World.grownBy_alloc wr (.cells #[.string nb, .string (cs 0)] 67) (some b)) hb).grown HG3.out hb, HG.out.trans ((World.grownBy_alloc wr (.cells #[.string nb, .string (cs 0)] 67) (some b)).trans HG3.out)⟩
          · have h1 := HO.out
            have h2 := HNB.out
            rw [takeK_fst cs L 0, h1, h2]
            rfl
          · have h2 := HNB.out
            rw [takeK, h2]
            exact HS3.out.mono (by omega)
        case measure => simp [intOf] <;> omega
      · go_wp2_with fail
        refine (code_any 1 (cs 0) _ (hcs 0) (by omega) (by omega)).mono ?_
        rintro e w2 ⟨rfl, hbw⟩
        have HSC : Hid (SeenAt w2 b (n + 0) (takeK cs L 0).2) := HSB.out.below (by simpa using Nat.lt_succ_of_lt HS2.out.lt) hbw
        have hlk := HSC.out.look HZ (hcs 0)
        have hck : w2.cell? ⟨wr.heap.size, 0, none⟩ = some (.string nb) := (hbw.cell (by simp)).trans (cellNew wr _ _ 0 _ rfl)
        have hck1 : w2.cell? ⟨wr.heap.size, 1, none⟩ = some (.string (cs 0)) := (hbw.cell (by simp)).trans (cellNew wr _ _ 1 _ rfl)
        have hbw := Lib.hid hbw
        obtain ⟨c, hc⟩ : ∃ c, codeB 1 (cs 0) = c := ⟨_, rfl⟩
        rw [hc]
        have HC := Lib.hid hc
        clear hc
        cases c
        · go_wp2_with (first | (at_mapUpdate; refine wpList_seen rfl _ _ _ rfl b _ _ rfl HSC.out (by unfold maxLen; omega) nb (cs 0) rfl rfl HZ (hcs 0) ?_; intro w3 hS3 hg3; have HS3 := Lib.hid hS3; have HG3 := Lib.hid hg3; clear hS3 hg3) | go_in)
          go_roundw
          case rel =>
            refine ⟨0 + 1, by omega, by go_num, ?_, ?_, (HN2.out.grown ((World.grownBy_alloc wr (.cells #[.string nb, .string (cs 0)] 67) (some b)).trans (grownBy_below (B := 0) (w := wr.alloc (.cells #[.string nb, .string (cs 0)] 67)) hbw.out (some b))) hb).grown HG3.out hb, HG.out.trans (((World.grownBy_alloc wr (.cells #[.string nb, .string (cs 0)] 67) (some b)).trans (grownBy_below (B := 0) (w := wr.alloc (.cells #[.string nb, .string (cs 0)] 67)) hbw.out (some b))).trans HG3.out)⟩
            · have h1 := HO.out
              have h2 := HNB.out
              rw [takeK_fst cs L 0, h1, h2]
              have h3 : codeB (((0 : Nat) : Int) + 1) (cs 0) = false := HC.out
              rw [h3]
              rfl
            · have h2 := HNB.out
              rw [takeK, h2]
              exact HS3.out.mono (by omega)
          case measure => simp [intOf] <;> omega
        · obtain ⟨q, hq⟩ : ∃ q, hasK (takeK cs L 0).2 nb (cs 0) = q := ⟨_, rfl⟩
          rw [hq] at hlk
          have HQ := Lib.hid hq
          clear hq
          simp only [key2] at hlk
          cases z0
          · go_wp2_with (first | (at_mapUpdate; refine wpList_seen rfl _ _ _ rfl b _ _ rfl HSC.out (by unfold maxLen; omega) nb (cs 0) rfl rfl HZ (hcs 0) ?_; intro w3 hS3 hg3; have HS3 := Lib.hid hS3; have HG3 := Lib.hid hg3; clear hS3 hg3) | go_in)
            go_roundw
            case rel =>
              refine ⟨0 + 1, by omega, by go_num, ?_, ?_, (HN2.out.grown ((World.grownBy_alloc wr (.cells #[.string nb, .string (cs 0)] 67) (some b)).trans (grownBy_below (B := 0) (w := wr.alloc (.cells #[.string nb, .string (cs 0)] 67)) hbw.out (some b))) hb).grown HG3.out hb, HG.out.trans (((World.grownBy_alloc wr (.cells #[.string nb, .string (cs 0)] 67) (some b)).trans (grownBy_below (B := 0) (w := wr.alloc (.cells #[.string nb, .string (cs 0)] 67)) hbw.out (some b))).trans HG3.out)⟩
              · have h1 := HO.out
                have h2 := HNB.out
                rw [takeK_fst cs L 0, h1, h2]
                have h3 : codeB (((0 : Nat) : Int) + 1) (cs 0) = true := HC.out
                have h4 := HQ.out
                rw [h3, hz0, h4]
                rfl
              · have h2 := HNB.out
                rw [takeK, h2]
                exact HS3.out.mono (by omega)
            case measure => simp [intOf] <;> omega
          · go_wp2_with (first | (at_mapUpdate; refine wpList_seen rfl _ _ _ rfl b _ _ rfl HSC.out (by unfold maxLen; omega) nb (cs 0) rfl rfl HZ (hcs 0) ?_; intro w3 hS3 hg3; have HS3 := Lib.hid hS3; have HG3 := Lib.hid hg3; clear hS3 hg3) | go_in)
            go_roundw
            case rel =>
              refine ⟨0 + 1, by omega, by go_num, ?_, ?_, (HN2.out.grown ((World.grownBy_alloc wr (.cells #[.string nb, .string (cs 0)] 67) (some b)).trans (grownBy_below (B := 0) (w := wr.alloc (.cells #[.string nb, .string (cs 0)] 67)) hbw.out (some b))) hb).grown HG3.out hb, HG.out.trans (((World.grownBy_alloc wr (.cells #[.string nb, .string (cs 0)] 67) (some b)).trans (grownBy_below (B := 0) (w := wr.alloc (.cells #[.string nb, .string (cs 0)] 67)) hbw.out (some b))).trans HG3.out)⟩
              · have h1 := HO.out
                have h2 := HNB.out
                rw [takeK_fst cs L 0, h1, h2]
                have h3 : codeB (((0 : Nat) : Int) + 1) (cs 0) = true := HC.out
                rw [h3, hz0]
                rfl
              · have h2 := HNB.out
                rw [takeK, h2]
                exact HS3.out.mono (by omega)
            case measure => simp [intOf] <;> omega
    · have hn0 := HN2.out 1 (by omega)
      have hi := tk1 (cs 0) (cs 1) (cs 2) (cs 3) (cs 4)
      have HZ := noteB_size 1
      obtain ⟨nb, hnb⟩ : ∃ nb, noteB 1 = nb := ⟨_, rfl⟩
      rw [hnb] at hn0 HZ
      obtain ⟨o, ho⟩ : ∃ o, (takeK cs L 1).1 = o := ⟨_, rfl⟩
      have HSA : SeenAt (wr.alloc (.cells #[.string nb, .string (cs 1)] 67)) b (n + 1) (takeK cs L 1).2 := HS2.out.heap (Below.heap_alloc _ _ _ HS2.out.lt)
      have HSB := Lib.hid HSA
      have HNB := Lib.hid hnb
      rw [ho]
      have HO := Lib.hid ho
      clear ho HSA hnb
      cases o
      · go_wp2_with (first | (at_mapUpdate; refine wpList_seen rfl _ _ _ rfl b _ _ rfl HSB.out (by unfold maxLen; omega) nb (cs 1) rfl rfl HZ (hcs 1) ?_; intro w3 hS3 hg3; have HS3 := Lib.hid hS3; have HG3 := Lib.hid hg3; clear hS3 hg3) | go_in)
        go_roundw
        case rel =>
          refine ⟨1 + 1, by omega, by go_num, ?_, ?_, (HN2.out.grown (World.grownBy_alloc wr (.cells #[.string nb, .string (cs 1)] 67) (some b)) hb).grown HG3.out hb, HG.out.trans ((World.grownBy_alloc wr (.cells #[.string nb, .string (cs 1)] 67) (some b)).trans HG3.out)⟩
          · have h1 := HO.out
            have h2 := HNB.out
            rw [takeK_fst cs L 1, h1, h2]
            rfl
          · have h2 := HNB.out
            rw [takeK, h2]
            exact HS3.out.mono (by omega)
        case measure => simp [intOf] <;> omega
      · go_wp2_with fail
        refine (code_any 2 (cs 1) _ (hcs 1) (by omega) (by omega)).mono ?_
        rintro e w2 ⟨rfl, hbw⟩
        have HSC : Hid (SeenAt w2 b (n + 1) (takeK cs L 1).2) := HSB.out.below (by simpa using Nat.lt_succ_of_lt HS2.out.lt) hbw
        have hlk := HSC.out.look HZ (hcs 1)
        have hck : w2.cell? ⟨wr.heap.size, 0, none⟩ = some (.string nb) := (hbw.cell (by simp)).trans (cellNew wr _ _ 0 _ rfl)
        have hck1 : w2.cell? ⟨wr.heap.size, 1, none⟩ = some (.string (cs 1)) := (hbw.cell (by simp)).trans (cellNew wr _ _ 1 _ rfl)
        have hbw := Lib.hid hbw
        obtain ⟨c, hc⟩ : ∃ c, codeB 2 (cs 1) = c := ⟨_, rfl⟩
        rw [hc]
        have HC := Lib.hid hc
        clear hc
        cases c
        · go_wp2_with (first | (at_mapUpdate; refine wpList_seen rfl _ _ _ rfl b _ _ rfl HSC.out (by unfold maxLen; omega) nb (cs 1) rfl rfl HZ (hcs 1) ?_; intro w3 hS3 hg3; have HS3 := Lib.hid hS3; have HG3 := Lib.hid hg3; clear hS3 hg3) | go_in)
          go_roundw
          case rel =>
            refine ⟨1 + 1, by omega, by go_num, ?_, ?_, (HN2.out.grown ((World.grownBy_alloc wr (.cells #[.string nb, .string (cs 1)] 67) (some b)).trans (grownBy_below (B := 0) (w := wr.alloc (.cells #[.string nb, .string (cs 1)] 67)) hbw.out (some b))) hb).grown HG3.out hb, HG.out.trans (((World.grownBy_alloc wr (.cells #[.string nb, .string (cs 1)] 67) (some b)).trans (grownBy_below (B := 0) (w := wr.alloc (.cells #[.string nb, .string (cs 1)] 67)) hbw.out (some b))).trans HG3.out)⟩
            · have h1 := HO.out
              have h2 := HNB.out
              rw [takeK_fst cs L 1, h1, h2]
              have h3 : codeB (((1 : Nat) : Int) + 1) (cs 1) = false := HC.out
              rw [h3]
              rfl
            · have h2 := HNB.out
              rw [takeK, h2]
              exact HS3.out.mono (by omega)
          case measure => simp [intOf] <;> omega
        · obtain ⟨q, hq⟩ : ∃ q, hasK (takeK cs L 1).2 nb (cs 1) = q := ⟨_, rfl⟩
          rw [hq] at hlk
          have HQ := Lib.hid hq
          clear hq
          simp only [key2] at hlk
          cases z1
          · go_wp2_with (first | (at_mapUpdate; refine wpList_seen rfl _ _ _ rfl b _ _ rfl HSC.out (by unfold maxLen; omega) nb (cs 1) rfl rfl HZ (hcs 1) ?_; intro w3 hS3 hg3; have HS3 := Lib.hid hS3; have HG3 := Lib.hid hg3; clear hS3 hg3) | go_in)
            go_roundw
            case rel =>
              refine ⟨1 + 1, by omega, by go_num, ?_, ?_, (HN2.out.grown ((World.grownBy_alloc wr (.cells #[.string nb, .string (cs 1)] 67) (some b)).trans (grownBy_below (B := 0) (w := wr.alloc (.cells #[.string nb, .string (cs 1)] 67)) hbw.out (some b))) hb).grown HG3.out hb, HG.out.trans (((World.grownBy_alloc wr (.cells #[.string nb, .string (cs 1)] 67) (some b)).trans (grownBy_below (B := 0) (w := wr.alloc (.cells #[.string nb, .string (cs 1)] 67)) hbw.out (some b))).trans HG3.out)⟩
              · have h1 := HO.out
                have h2 := HNB.out
                rw [takeK_fst cs L 1, h1, h2]
                have h3 : codeB (((1 : Nat) : Int) + 1) (cs 1) = true := HC.out
                have h4 := HQ.out
                rw [h3, hz1, h4]
                rfl
              · have h2 := HNB.out
                rw [takeK, h2]
                exact HS3.out.mono (by omega)
            case measure => simp [intOf] <;> omega
          · go_wp2_with (first | (at_mapUpdate; refine wpList_seen rfl _ _ _ rfl b _ _ rfl HSC.out (by unfold maxLen; omega) nb (cs 1) rfl rfl HZ (hcs 1) ?_; intro w3 hS3 hg3; have HS3 := Lib.hid hS3; have HG3 := Lib.hid hg3; clear hS3 hg3) | go_in)
            go_roundw
            case rel =>
              refine ⟨1 + 1, by omega, by go_num, ?_, ?_, (HN2.out.grown ((World.grownBy_alloc wr (.cells #[.string nb, .string (cs 1)] 67) (some b)).trans (grownBy_below (B := 0) (w := wr.alloc (.cells #[.string nb, .string (cs 1)] 67)) hbw.out (some b))) hb).grown HG3.out hb, HG.out.trans (((World.grownBy_alloc wr (.cells #[.string nb, .string (cs 1)] 67) (some b)).trans (grownBy_below (B := 0) (w := wr.alloc (.cells #[.string nb, .string (cs 1)] 67)) hbw.out (some b))).trans HG3.out)⟩
              · have h1 := HO.out
                have h2 := HNB.out
                rw [takeK_fst cs L 1, h1, h2]
                have h3 : codeB (((1 : Nat) : Int) + 1) (cs 1) = true := HC.out
                rw [h3, hz1]
                rfl
              · have h2 := HNB.out
                rw [takeK, h2]
                exact HS3.out.mono (by omega)
            case measure => simp [intOf] <;> omega
    · have hn0 := HN2.out 2 (by omega)
      have hi := tk2 (cs 0) (cs 1) (cs 2) (cs 3) (cs 4)
      have HZ := noteB_size 2
      obtain ⟨nb, hnb⟩ : ∃ nb, noteB 2 = nb := ⟨_, rfl⟩
      rw [hnb] at hn0 HZ
      obtain ⟨o, ho⟩ : ∃ o, (takeK cs L 2).1 = o := ⟨_, rfl⟩
      have HSA : SeenAt (wr.alloc (.cells #[.string nb, .string (cs 2)] 67)) b (n + 2) (takeK cs L 2).2 := HS2.out.heap (Below.heap_alloc _ _ _ HS2.out.lt)
      have HSB := Lib.hid HSA
      have HNB := Lib.hid hnb
      rw [ho]
      have HO := Lib.hid ho
      clear ho HSA hnb
      cases o
      · go_wp2_with (first | (at_mapUpdate; refine wpList_seen rfl _ _ _ rfl b _ _ rfl HSB.out (by unfold maxLen; omega) nb (cs 2) rfl rfl HZ (hcs 2) ?_; intro w3 hS3 hg3; have HS3 := Lib.hid hS3; have HG3 := Lib.hid hg3; clear hS3 hg3) | go_in)
        go_roundw
        case rel =>
          refine ⟨2 + 1, by omega, by go_num, ?_, ?_, (HN2.out.grown (World.grownBy_alloc wr (.cells #[.string nb, .string (cs 2)] 67) (some b)) hb).grown HG3.out hb, HG.out.trans ((World.grownBy_alloc wr (.cells #[.string nb, .string (cs 2)] 67) (some b)).trans HG3.out)⟩
          · have h1 := HO.out
            have h2 := HNB.out
            rw [takeK_fst cs L 2, h1, h2]
            rfl
          · have h2 := HNB.out
            rw [takeK, h2]
            exact HS3.out.mono (by omega)
        case measure => simp [intOf] <;> omega
      · go_wp2_with fail
        refine (code_any 3 (cs 2) _ (hcs 2) (by omega) (by omega)).mono ?_
        rintro e w2 ⟨rfl, hbw⟩
        have HSC : Hid (SeenAt w2 b (n + 2) (takeK cs L 2).2) := HSB.out.below (by simpa using Nat.lt_succ_of_lt HS2.out.lt) hbw
        have hlk := HSC.out.look HZ (hcs 2)
        have hck : w2.cell? ⟨wr.heap.size, 0, none⟩ = some (.string nb) := (hbw.cell (by simp)).trans (cellNew wr _ _ 0 _ rfl)
        have hck1 : w2.cell? ⟨wr.heap.size, 1, none⟩ = some (.string (cs 2)) := (hbw.cell (by simp)).trans (cellNew wr _ _ 1 _ rfl)
        have hbw := Lib.hid hbw
        obtain ⟨c, hc⟩ : ∃ c, codeB 3 (cs 2) = c := ⟨_, rfl⟩
        rw [hc]
        have HC := Lib.hid hc
        clear hc
        cases c
        · go_wp2_with (first | (at_mapUpdate; refine wpList_seen rfl _ _ _ rfl b _ _ rfl HSC.out (by unfold maxLen; omega) nb (cs 2) rfl rfl HZ (hcs 2) ?_; intro w3 hS3 hg3; have HS3 := Lib.hid hS3; have HG3 := Lib.hid hg3; clear hS3 hg3) | go_in)
          go_roundw
          case rel =>
            refine ⟨2 + 1, by omega, by go_num, ?_, ?_, (HN2.out.grown ((World.grownBy_alloc wr (.cells #[.string nb, .string (cs 2)] 67) (some b)).trans (grownBy_below (B := 0) (w := wr.alloc (.cells #[.string nb, .string (cs 2)] 67)) hbw.out (some b))) hb).grown HG3.out hb, HG.out.trans (((World.grownBy_alloc wr (.cells #[.string nb, .string (cs 2)] 67) (some b)).trans (grownBy_below (B := 0) (w := wr.alloc (.cells #[.string nb, .string (cs 2)] 67)) hbw.out (some b))).trans HG3.out)⟩
            · have h1 := HO.out
              have h2 := HNB.out
              rw [takeK_fst cs L 2, h1, h2]
              have h3 : codeB (((2 : Nat) : Int) + 1) (cs 2) = false := HC.out
              rw [h3]
              rfl
            · have h2 := HNB.out
              rw [takeK, h2]
              exact HS3.out.mono (by omega)
          case measure => simp [intOf] <;> omega
        · obtain ⟨q, hq⟩ : ∃ q, hasK (takeK cs L 2).2 nb (cs 2) = q := ⟨_, rfl⟩
          rw [hq] at hlk
          have HQ := Lib.hid hq
          clear hq
          simp only [key2] at hlk
          cases z2
          · go_wp2_with (first | (at_mapUpdate; refine wpList_seen rfl _ _ _ rfl b _ _ rfl HSC.out (by unfold maxLen; omega) nb (cs 2) rfl rfl HZ (hcs 2) ?_; intro w3 hS3 hg3; have HS3 := Lib.hid hS3; have HG3 := Lib.hid hg3; clear hS3 hg3) | go_in)
            go_roundw
            case rel =>
              refine ⟨2 + 1, by omega, by go_num, ?_, ?_, (HN2.out.grown ((World.grownBy_alloc wr (.cells #[.string nb, .string (cs 2)] 67) (some b)).trans (grownBy_below (B := 0) (w := wr.alloc (.cells #[.string nb, .string (cs 2)] 67)) hbw.out (some b))) hb).grown HG3.out hb, HG.out.trans (((World.grownBy_alloc wr (.cells #[.string nb, .string (cs 2)] 67) (some b)).trans (grownBy_below (B := 0) (w := wr.alloc (.cells #[.string nb, .string (cs 2)] 67)) hbw.out (some b))).trans HG3.out)⟩
              · have h1 := HO.out
                have h2 := HNB.out
                rw [takeK_fst cs L 2, h1, h2]
                have h3 : codeB (((2 : Nat) : Int) + 1) (cs 2) = true := HC.out
                have h4 := HQ.out
                rw [h3, hz2, h4]
                rfl
              · have h2 := HNB.out
                rw [takeK, h2]
                exact HS3.out.mono (by omega)
            case measure => simp [intOf] <;> omega
          · go_wp2_with (first | (at_mapUpdate; refine wpList_seen rfl _ _ _ rfl b _ _ rfl HSC.out (by unfold maxLen; omega) nb (cs 2) rfl rfl HZ (hcs 2) ?_; intro w3 hS3 hg3; have HS3 := Lib.hid hS3; have HG3 := Lib.hid hg3; clear hS3 hg3) | go_in)
            go_roundw
            case rel =>
              refine ⟨2 + 1, by omega, by go_num, ?_, ?_, (HN2.out.grown ((World.grownBy_alloc wr (.cells #[.string nb, .string (cs 2)] 67) (some b)).trans (grownBy_below (B := 0) (w := wr.alloc (.cells #[.string nb, .string (cs 2)] 67)) hbw.out (some b))) hb).grown HG3.out hb, HG.out.trans (((World.grownBy_alloc wr (.cells #[.string nb, .string (cs 2)] 67) (some b)).trans (grownBy_below (B := 0) (w := wr.alloc (.cells #[.string nb, .string (cs 2)] 67)) hbw.out (some b))).trans HG3.out)⟩
              · have h1 := HO.out
                have h2 := HNB.out
                rw [takeK_fst cs L 2, h1, h2]
                have h3 : codeB (((2 : Nat) : Int) + 1) (cs 2) = true := HC.out
                rw [h3, hz2]
                rfl
              · have h2 := HNB.out
                rw [takeK, h2]
                exact HS3.out.mono (by omega)
            case measure => simp [intOf] <;> omega
    · have hn0 := HN2.out 3 (by omega)
      have hi := tk3 (cs 0) (cs 1) (cs 2) (cs 3) (cs 4)
      have HZ := noteB_size 3
      obtain ⟨nb, hnb⟩ : ∃ nb, noteB 3 = nb := ⟨_, rfl⟩
      rw [hnb] at hn0 HZ
      obtain ⟨o, ho⟩ : ∃ o, (takeK cs L 3).1 = o := ⟨_, rfl⟩
      have HSA : SeenAt (wr.alloc (.cells #[.string nb, .string (cs 3)] 67)) b (n + 3) (takeK cs L 3).2 := HS2.out.heap (Below.heap_alloc _ _ _ HS2.out.lt)
      have HSB := Lib.hid HSA
      have HNB := Lib.hid hnb
      rw [ho]
      have HO := Lib.hid ho
      clear ho HSA hnb
      cases o
      · go_wp2_with (first | (at_mapUpdate; refine wpList_seen rfl _ _ _ rfl b _ _ rfl HSB.out (by unfold maxLen; omega) nb (cs 3) rfl rfl HZ (hcs 3) ?_; intro w3 hS3 hg3; have HS3 := Lib.hid hS3; have HG3 := Lib.hid hg3; clear hS3 hg3) | go_in)
        go_roundw
        case rel =>
          refine ⟨3 + 1, by omega, by go_num, ?_, ?_, (HN2.out.grown (World.grownBy_alloc wr (.cells #[.string nb, .string (cs 3)] 67) (some b)) hb).grown HG3.out hb, HG.out.trans ((World.grownBy_alloc wr (.cells #[.string nb, .string (cs 3)] 67) (some b)).trans HG3.out)⟩
          · have h1 := HO.out
            have h2 := HNB.out
            rw [takeK_fst cs L 3, h1, h2]
            rfl
          · have h2 := HNB.out
            rw [takeK, h2]
            exact HS3.out.mono (by omega)
        case measure => simp [intOf] <;> omega
      · go_wp2_with fail
        refine (code_any 4 (cs 3) _ (hcs 3) (by omega) (by omega)).mono ?_
        rintro e w2 ⟨rfl, hbw⟩
        have HSC : Hid (SeenAt w2 b (n + 3) (takeK cs L 3).2) := HSB.out.below (by simpa using Nat.lt_succ_of_lt HS2.out.lt) hbw
        have hlk := HSC.out.look HZ (hcs 3)
        have hck : w2.cell? ⟨wr.heap.size, 0, none⟩ = some (.string nb) := (hbw.cell (by simp)).trans (cellNew wr _ _ 0 _ rfl)
        have hck1 : w2.cell? ⟨wr.heap.size, 1, none⟩ = some (.string (cs 3)) := (hbw.cell (by simp)).trans (cellNew wr _ _ 1 _ rfl)
        have hbw := Lib.hid hbw
        obtain ⟨c, hc⟩ : ∃ c, codeB 4 (cs 3) = c := ⟨_, rfl⟩
        rw [hc]
        have HC := Lib.hid hc
        clear hc
        cases c
        · go_wp2_with (first | (at_mapUpdate; refine wpList_seen rfl _ _ _ rfl b _ _ rfl HSC.out (by unfold maxLen; omega) nb (cs 3) rfl rfl HZ (hcs 3) ?_; intro w3 hS3 hg3; have HS3 := Lib.hid hS3; have HG3 := Lib.hid hg3; clear hS3 hg3) | go_in)
          go_roundw
          case rel =>
            refine ⟨3 + 1, by omega, by go_num, ?_, ?_, (HN2.out.grown ((World.grownBy_alloc wr (.cells #[.string nb, .string (cs 3)] 67) (some b)).trans (grownBy_below (B := 0) (w := wr.alloc (.cells #[.string nb, .string (cs 3)] 67)) hbw.out (some b))) hb).grown HG3.out hb, HG.out.trans (((World.grownBy_alloc wr (.cells #[.string nb, .string (cs 3)] 67) (some b)).trans (grownBy_below (B := 0) (w := wr.alloc (.cells #[.string nb, .string (cs 3)] 67)) hbw.out (some b))).trans HG3.out)⟩
            · have h1 := HO.out
              have h2 := HNB.out
              rw [takeK_fst cs L 3, h1, h2]
              have h3 : codeB (((3 : Nat) : Int) + 1) (cs 3) = false := HC.out
              rw [h3]
              rfl
            · have h2 := HNB.out
              rw [takeK, h2]
              exact HS3.out.mono (by omega)
          case measure => simp [intOf] <;> omega
        · obtain ⟨q, hq⟩ : ∃ q, hasK (takeK cs L 3).2 nb (cs 3) = q := ⟨_, rfl⟩
          rw [hq] at hlk
          have HQ := Lib.hid hq
          clear hq
          simp only [key2] at hlk
          cases z3
          · go_wp2_with (first | (at_mapUpdate; refine wpList_seen rfl _ _ _ rfl b _ _ rfl HSC.out (by unfold maxLen; omega) nb (cs 3) rfl rfl HZ (hcs 3) ?_; intro w3 hS3 hg3; have HS3 := Lib.hid hS3; have HG3 := Lib.hid hg3; clear hS3 hg3) | go_in)
            go_roundw
            case rel =>
              refine ⟨3 + 1, by omega, by go_num, ?_, ?_, (HN2.out.grown ((World.grownBy_alloc wr (.cells #[.string nb, .string (cs 3)] 67) (some b)).trans (grownBy_below (B := 0) (w := wr.alloc (.cells #[.string nb, .string (cs 3)] 67)) hbw.out (some b))) hb).grown HG3.out hb, HG.out.trans (((World.grownBy_alloc wr (.cells #[.string nb, .string (cs 3)] 67) (some b)).trans (grownBy_below (B := 0) (w := wr.alloc (.cells #[.string nb, .string (cs 3)] 67)) hbw.out (some b))).trans HG3.out)⟩
              · have h1 := HO.out
                have h2 := HNB.out
                rw [takeK_fst cs L 3, h1, h2]
                have h3 : codeB (((3 : Nat) : Int) + 1) (cs 3) = true := HC.out
                have h4 := HQ.out
                rw [h3, hz3, h4]
                rfl
              · have h2 := HNB.out
                rw [takeK, h2]
                exact HS3.out.mono (by omega)
            case measure => simp [intOf] <;> omega
          · go_wp2_with (first | (at_mapUpdate; refine wpList_seen rfl _ _ _ rfl b _ _ rfl HSC.out (by unfold maxLen; omega) nb (cs 3) rfl rfl HZ (hcs 3) ?_; intro w3 hS3 hg3; have HS3 := Lib.hid hS3; have HG3 := Lib.hid hg3; clear hS3 hg3) | go_in)
            go_roundw
            case rel =>
              refine ⟨3 + 1, by omega, by go_num, ?_, ?_, (HN2.out.grown ((World.grownBy_alloc wr (.cells #[.string nb, .string (cs 3)] 67) (some b)).trans (grownBy_below (B := 0) (w := wr.alloc (.cells #[.string nb, .string (cs 3)] 67)) hbw.out (some b))) hb).grown HG3.out hb, HG.out.trans (((World.grownBy_alloc wr (.cells #[.string nb, .string (cs 3)] 67) (some b)).trans (grownBy_below (B := 0) (w := wr.alloc (.cells #[.string nb, .string (cs 3)] 67)) hbw.out (some b))).trans HG3.out)⟩
              · have h1 := HO.out
                have h2 := HNB.out
                rw [takeK_fst cs L 3, h1, h2]
                have h3 : codeB (((3 : Nat) : Int) + 1) (cs 3) = true := HC.out
                rw [h3, hz3]
                rfl
              · have h2 := HNB.out
                rw [takeK, h2]
                exact HS3.out.mono (by omega)
            case measure => simp [intOf] <;> omega
    · have hn0 := HN2.out 4 (by omega)
      have hi := tk4 (cs 0) (cs 1) (cs 2) (cs 3) (cs 4)
      have HZ := noteB_size 4
      obtain ⟨nb, hnb⟩ : ∃ nb, noteB 4 = nb := ⟨_, rfl⟩
      rw [hnb] at hn0 HZ
      obtain ⟨o, ho⟩ : ∃ o, (takeK cs L 4).1 = o := ⟨_, rfl⟩
      have HSA : SeenAt (wr.alloc (.cells #[.string nb, .string (cs 4)] 67)) b (n + 4) (takeK cs L 4).2 := HS2.out.heap (Below.heap_alloc _ _ _ HS2.out.lt)
      have HSB := Lib.hid HSA
      have HNB := Lib.hid hnb
      rw [ho]
      have HO := Lib.hid ho
      clear ho HSA hnb
      cases o
      · go_wp2_with (first | (at_mapUpdate; refine wpList_seen rfl _ _ _ rfl b _ _ rfl HSB.out (by unfold maxLen; omega) nb (cs 4) rfl rfl HZ (hcs 4) ?_; intro w3 hS3 hg3; have HS3 := Lib.hid hS3; have HG3 := Lib.hid hg3; clear hS3 hg3) | go_in)
        go_roundw
        case rel =>
          refine ⟨4 + 1, by omega, by go_num, ?_, ?_, (HN2.out.grown (World.grownBy_alloc wr (.cells #[.string nb, .string (cs 4)] 67) (some b)) hb).grown HG3.out hb, HG.out.trans ((World.grownBy_alloc wr (.cells #[.string nb, .string (cs 4)] 67) (some b)).trans HG3.out)⟩
          · have h1 := HO.out
            have h2 := HNB.out
            rw [takeK_fst cs L 4, h1, h2]
            rfl
          · have h2 := HNB.out
            rw [takeK, h2]
            exact HS3.out.mono (by omega)
        case measure => simp [intOf] <;> omega
      · go_wp2_with fail
        refine (code_any 5 (cs 4) _ (hcs 4) (by omega) (by omega)).mono ?_
        rintro e w2 ⟨rfl, hbw⟩
        have HSC : Hid (SeenAt w2 b (n + 4) (takeK cs L 4).2) := HSB.out.below (by simpa using Nat.lt_succ_of_lt HS2.out.lt) hbw
        have hlk := HSC.out.look HZ (hcs 4)
        have hck : w2.cell? ⟨wr.heap.size, 0, none⟩ = some (.string nb) := (hbw.cell (by simp)).trans (cellNew wr _ _ 0 _ rfl)
        have hck1 : w2.cell? ⟨wr.heap.size, 1, none⟩ = some (.string (cs 4)) := (hbw.cell (by simp)).trans (cellNew wr _ _ 1 _ rfl)
        have hbw := Lib.hid hbw
        obtain ⟨c, hc⟩ : ∃ c, codeB 5 (cs 4) = c := ⟨_, rfl⟩
        rw [hc]
        have HC := Lib.hid hc
        clear hc
        cases c
        · go_wp2_with (first | (at_mapUpdate; refine wpList_seen rfl _ _ _ rfl b _ _ rfl HSC.out (by unfold maxLen; omega) nb (cs 4) rfl rfl HZ (hcs 4) ?_; intro w3 hS3 hg3; have HS3 := Lib.hid hS3; have HG3 := Lib.hid hg3; clear hS3 hg3) | go_in)
          go_roundw
          case rel =>
            refine ⟨4 + 1, by omega, by go_num, ?_, ?_, (HN2.out.grown ((World.grownBy_alloc wr (.cells #[.string nb, .string (cs 4)] 67) (some b)).trans (grownBy_below (B := 0) (w := wr.alloc (.cells #[.string nb, .string (cs 4)] 67)) hbw.out (some b))) hb).grown HG3.out hb, HG.out.trans (((World.grownBy_alloc wr (.cells #[.string nb, .string (cs 4)] 67) (some b)).trans (grownBy_below (B := 0) (w := wr.alloc (.cells #[.string nb, .string (cs 4)] 67)) hbw.out (some b))).trans HG3.out)⟩
            · have h1 := HO.out
              have h2 := HNB.out
              rw [takeK_fst cs L 4, h1, h2]
              have h3 : codeB (((4 : Nat) : Int) + 1) (cs 4) = false := HC.out
              rw [h3]
              rfl
            · have h2 := HNB.out
              rw [takeK, h2]
              exact HS3.out.mono (by omega)
          case measure => simp [intOf] <;> omega
        · obtain ⟨q, hq⟩ : ∃ q, hasK (takeK cs L 4).2 nb (cs 4) = q := ⟨_, rfl⟩
          rw [hq] at hlk
          have HQ := Lib.hid hq
          clear hq
          simp only [key2] at hlk
          cases z4
          · go_wp2_with (first | (at_mapUpdate; refine wpList_seen rfl _ _ _ rfl b _ _ rfl HSC.out (by unfold maxLen; omega) nb (cs 4) rfl rfl HZ (hcs 4) ?_; intro w3 hS3 hg3; have HS3 := Lib.hid hS3; have HG3 := Lib.hid hg3; clear hS3 hg3) | go_in)
            go_roundw
            case rel =>
              refine ⟨4 + 1, by omega, by go_num, ?_, ?_, (HN2.out.grown ((World.grownBy_alloc wr (.cells #[.string nb, .string (cs 4)] 67) (some b)).trans (grownBy_below (B := 0) (w := wr.alloc (.cells #[.string nb, .string (cs 4)] 67)) hbw.out (some b))) hb).grown HG3.out hb, HG.out.trans (((World.grownBy_alloc wr (.cells #[.string nb, .string (cs 4)] 67) (some b)).trans (grownBy_below (B := 0) (w := wr.alloc (.cells #[.string nb, .string (cs 4)] 67)) hbw.out (some b))).trans HG3.out)⟩
              · have h1 := HO.out
                have h2 := HNB.out
                rw [takeK_fst cs L 4, h1, h2]
                have h3 : codeB (((4 : Nat) : Int) + 1) (cs 4) = true := HC.out
                have h4 := HQ.out
                rw [h3, hz4, h4]
                rfl
              · have h2 := HNB.out
                rw [takeK, h2]
                exact HS3.out.mono (by omega)
            case measure => simp [intOf] <;> omega
          · go_wp2_with (first | (at_mapUpdate; refine wpList_seen rfl _ _ _ rfl b _ _ rfl HSC.out (by unfold maxLen; omega) nb (cs 4) rfl rfl HZ (hcs 4) ?_; intro w3 hS3 hg3; have HS3 := Lib.hid hS3; have HG3 := Lib.hid hg3; clear hS3 hg3) | go_in)
            go_roundw
            case rel =>
              refine ⟨4 + 1, by omega, by go_num, ?_, ?_, (HN2.out.grown ((World.grownBy_alloc wr (.cells #[.string nb, .string (cs 4)] 67) (some b)).trans (grownBy_below (B := 0) (w := wr.alloc (.cells #[.string nb, .string (cs 4)] 67)) hbw.out (some b))) hb).grown HG3.out hb, HG.out.trans (((World.grownBy_alloc wr (.cells #[.string nb, .string (cs 4)] 67) (some b)).trans (grownBy_below (B := 0) (w := wr.alloc (.cells #[.string nb, .string (cs 4)] 67)) hbw.out (some b))).trans HG3.out)⟩
              · have h1 := HO.out
                have h2 := HNB.out
                rw [takeK_fst cs L 4, h1, h2]
                have h3 : codeB (((4 : Nat) : Int) + 1) (cs 4) = true := HC.out
                rw [h3, hz4]
                rfl
              · have h2 := HNB.out
                rw [takeK, h2]
                exact HS3.out.mono (by omega)
            case measure => simp [intOf] <;> omega
    · go_wp2_with fail
      go_ret
      exact ⟨rfl, HS2.out, HG.out⟩
end Go.Proofs.YtiinppicdhidhaaDoor
