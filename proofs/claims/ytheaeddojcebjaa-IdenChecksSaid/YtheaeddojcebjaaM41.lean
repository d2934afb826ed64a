/-
  The document's Parse of a reply: what is heard.
-/
import Derived.Test.YtheaeddojcebjaaM40
import Derived.Test.YtheaeddojcebjaaM14
set_option maxRecDepth 100000
set_option maxHeartbeats 4000000
set_option linter.unusedVariables false
set_option linter.unusedSimpArgs false
namespace Go.Proofs.Ytheaeddojcebjaa
open Go.RowKit

/-- What the document's heard gives. -/
def rdTell (fn n : Int) (b : List Int) : Tell × Bool :=
  if fn = 1 ∨ fn = 2 then (if 2 ≤ b.length ∧ b.getD 1 0 = (b.length : Int) - 2 ∧ 1 ≤ n ∧ n ≤ 2000 then ({ fn := fn, bits := if fit (b.drop 2) n then unpackL (b.drop 2) n.toNat else [] }, fit (b.drop 2) n) else ({ fn := fn }, false))
  else if fn = 3 ∨ fn = 4 ∨ fn = 23 then (if 2 ≤ b.length ∧ b.getD 1 0 = (b.length : Int) - 2 then ({ fn := fn, words := if listOk b 2 (b.getD 1 0 / 2) then wsAt b 2 (b.getD 1 0 / 2).toNat else [] }, listOk b 2 (b.getD 1 0 / 2)) else ({ fn := fn }, false))
  else if fn = 5 then ({ fn := fn, at_ := wOr b 1, val := if wOr b 3 = 65280 then 1 else 0 }, decide (b.length = 5) && decide (wOr b 3 = 0 ∨ wOr b 3 = 65280))
  else if fn = 6 then ({ fn := fn, at_ := wOr b 1, val := wOr b 3 }, decide (b.length = 5))
  else if fn = 22 then ({ fn := fn, at_ := wOr b 1, and_ := wOr b 3, or_ := wOr b 5 }, decide (b.length = 7))
  else if fn = 43 then (toldA b, toldB b)
  else if fn = 15 ∨ fn = 16 then ({ fn := fn, at_ := wOr b 1, n := wOr b 3 }, decide (b.length = 5))
  else ({ fn := fn }, decide (b.length = 5))
theorem heard_ok {b : List Int} (hb : Byt b) (hl : b.length ≤ 1000) (h0 : 1 ≤ b.length) {n : Int} (hn : b64 n) : FnOk Try.prog 113 [vBy b, vI .i64 n] [] (.tup [.agg (rdTell (b.getD 0 0) n b).1.cs, .c (.t (.bool (rdTell (b.getD 0 0) n b).2))]) [] := by
  have hg0 := rI_get (k := .u8) (l := b) (i := 0) h0
  have hrb := at_byt hb 0
  have hr1 := at_byt hb 1
  obtain ⟨fn, hfn⟩ : ∃ fn, b.getD 0 0 = fn := ⟨_, rfl⟩
  rw [hfn] at hg0 hrb ⊢
  have hg1 : 2 ≤ b.length → (rI .u8 b)[1]? = some [.int .u8 (b.getD 1 0)] := fun h => rI_get (by omega)
  have hw : ∀ k : Nat, k ≤ 100 → FnOk Try.prog 131 [vBy b, vI .i64 k] [] (vI .i64 (wOr b k)) [] := fun k hk => word_ok hb (by omega) (by omega)
  have hw1 := hw 1 (by omega)
  have hw3 := hw 3 (by omega)
  have hw5 := hw 5 (by omega)
  have r1 := wOr_rng hb 1
  have r3 := wOr_rng hb 3
  have r5 := wOr_rng hb 5
  have hu := rUnpack_ok (b := b.drop 2) (n := n) (fun x hx => hb x (List.mem_of_mem_drop hx)) (by simp; omega) hn
  have hw2 := list_ok (k := 2) (n := b.getD 1 0 / 2) hb (by omega) (by omega) (by omega)
  have hT := told_ok hb hl
  have hq : (b.getD 1 0).tdiv 2 = b.getD 1 0 / 2 := Int.tdiv_eq_ediv_of_nonneg hr1.1
  have hdr : List.take (b.length - 2) (List.drop 2 (rI .u8 b)) = rI .u8 (b.drop 2) := by
    rw [rI_drop, rI_take, List.take_of_length_le (by simp)]
  have hul := unpackL_len' (b.drop 2) n
  generalize hB1 : b.getD 1 0 = B1 at *
  clear hw
  by_cases hf1 : fn = 1
  · subst hf1
    by_cases c : 2 ≤ b.length ∧ B1 = (b.length : Int) - 2 ∧ 1 ≤ n ∧ n ≤ 2000
    · have e : rdTell 1 n b = ({ fn := 1, bits := if fit (b.drop 2) n then unpackL (b.drop 2) n.toNat else [] }, fit (b.drop 2) n) := by unfold rdTell; rw [if_pos (by omega), hB1, if_pos c]
      rw [e]
      have g1 := hg1 c.1
      refine FnOk.tree t113 (.a (.at [.int .u8 1]) (.a (.b 29 false) (.a (.at [.int .u8 B1]) (.a (.b 39 false) (.a (.b 43 false) (.a (.b 46 false) (.f [] hu .nil))))))) rfl rfl rfl rfl ?_
      simp [hg0, leVs, leP, leE, leEs, leL, leC, hdr, hq, wu16, -List.getD_eq_getElem?_getD, g1, c.1, c.2.1, c.2.2.1, c.2.2.2]
      all_goals (repeat' (first | omega | (intro _) | apply And.intro | apply Iff.intro))
    · have e : rdTell 1 n b = ({ fn := 1 }, false) := by unfold rdTell; rw [if_pos (by omega), hB1, if_neg c]
      rw [e]
      by_cases c1 : b.length < 2
      · have c1 : (b.length : Int) < 2 := by omega
        refine FnOk.tree t113 (.a (.at [.int .u8 1]) (.a (.b 29 true) .nil)) rfl rfl rfl rfl ?_
        simp [hg0, leVs, leP, leE, leEs, leL, leC, hdr, hq, wu16, -List.getD_eq_getElem?_getD, c1]
        all_goals (repeat' (first | omega | (intro _) | apply And.intro | apply Iff.intro))
      have g1 := hg1 (by omega)
      by_cases c2 : B1 = (b.length : Int) - 2
      case neg =>
        refine FnOk.tree t113 (.a (.at [.int .u8 1]) (.a (.b 29 false) (.a (.at [.int .u8 B1]) (.a (.b 39 true) .nil)))) rfl rfl rfl rfl ?_
        simp [hg0, leVs, leP, leE, leEs, leL, leC, hdr, hq, wu16, -List.getD_eq_getElem?_getD, g1, c2]
        all_goals (repeat' (first | omega | (intro _) | apply And.intro | apply Iff.intro))
      by_cases c3 : n < 1
      case pos =>
        refine FnOk.tree t113 (.a (.at [.int .u8 1]) (.a (.b 29 false) (.a (.at [.int .u8 B1]) (.a (.b 39 false) (.a (.b 43 true) .nil))))) rfl rfl rfl rfl ?_
        simp [hg0, leVs, leP, leE, leEs, leL, leC, hdr, hq, wu16, -List.getD_eq_getElem?_getD, g1, c3]
        all_goals (repeat' (first | omega | (intro _) | apply And.intro | apply Iff.intro))
      refine FnOk.tree t113 (.a (.at [.int .u8 1]) (.a (.b 29 false) (.a (.at [.int .u8 B1]) (.a (.b 39 false) (.a (.b 43 false) (.a (.b 46 true) .nil)))))) rfl rfl rfl rfl ?_
      simp [hg0, leVs, leP, leE, leEs, leL, leC, hdr, hq, wu16, -List.getD_eq_getElem?_getD, g1, c2]
      all_goals (repeat' (first | omega | (intro _) | apply And.intro | apply Iff.intro))
  by_cases hf2 : fn = 2
  · subst hf2
    by_cases c : 2 ≤ b.length ∧ B1 = (b.length : Int) - 2 ∧ 1 ≤ n ∧ n ≤ 2000
    · have e : rdTell 2 n b = ({ fn := 2, bits := if fit (b.drop 2) n then unpackL (b.drop 2) n.toNat else [] }, fit (b.drop 2) n) := by unfold rdTell; rw [if_pos (by omega), hB1, if_pos c]
      rw [e]
      have g1 := hg1 c.1
      refine FnOk.tree t113 (.a (.at [.int .u8 2]) (.a (.b 29 false) (.a (.at [.int .u8 B1]) (.a (.b 39 false) (.a (.b 43 false) (.a (.b 46 false) (.f [] hu .nil))))))) rfl rfl rfl rfl ?_
      simp [hg0, leVs, leP, leE, leEs, leL, leC, hdr, hq, wu16, -List.getD_eq_getElem?_getD, g1, c.1, c.2.1, c.2.2.1, c.2.2.2]
      all_goals (repeat' (first | omega | (intro _) | apply And.intro | apply Iff.intro))
    · have e : rdTell 2 n b = ({ fn := 2 }, false) := by unfold rdTell; rw [if_pos (by omega), hB1, if_neg c]
      rw [e]
      by_cases c1 : b.length < 2
      · have c1 : (b.length : Int) < 2 := by omega
        refine FnOk.tree t113 (.a (.at [.int .u8 2]) (.a (.b 29 true) .nil)) rfl rfl rfl rfl ?_
        simp [hg0, leVs, leP, leE, leEs, leL, leC, hdr, hq, wu16, -List.getD_eq_getElem?_getD, c1]
        all_goals (repeat' (first | omega | (intro _) | apply And.intro | apply Iff.intro))
      have g1 := hg1 (by omega)
      by_cases c2 : B1 = (b.length : Int) - 2
      case neg =>
        refine FnOk.tree t113 (.a (.at [.int .u8 2]) (.a (.b 29 false) (.a (.at [.int .u8 B1]) (.a (.b 39 true) .nil)))) rfl rfl rfl rfl ?_
        simp [hg0, leVs, leP, leE, leEs, leL, leC, hdr, hq, wu16, -List.getD_eq_getElem?_getD, g1, c2]
        all_goals (repeat' (first | omega | (intro _) | apply And.intro | apply Iff.intro))
      by_cases c3 : n < 1
      case pos =>
        refine FnOk.tree t113 (.a (.at [.int .u8 2]) (.a (.b 29 false) (.a (.at [.int .u8 B1]) (.a (.b 39 false) (.a (.b 43 true) .nil))))) rfl rfl rfl rfl ?_
        simp [hg0, leVs, leP, leE, leEs, leL, leC, hdr, hq, wu16, -List.getD_eq_getElem?_getD, g1, c3]
        all_goals (repeat' (first | omega | (intro _) | apply And.intro | apply Iff.intro))
      refine FnOk.tree t113 (.a (.at [.int .u8 2]) (.a (.b 29 false) (.a (.at [.int .u8 B1]) (.a (.b 39 false) (.a (.b 43 false) (.a (.b 46 true) .nil)))))) rfl rfl rfl rfl ?_
      simp [hg0, leVs, leP, leE, leEs, leL, leC, hdr, hq, wu16, -List.getD_eq_getElem?_getD, g1, c2]
      all_goals (repeat' (first | omega | (intro _) | apply And.intro | apply Iff.intro))
  by_cases hf3 : fn = 3
  · subst hf3
    by_cases c : 2 ≤ b.length ∧ B1 = (b.length : Int) - 2
    · have e : rdTell 3 n b = ({ fn := 3, words := if listOk b 2 (B1 / 2) then wsAt b 2 (B1 / 2).toNat else [] }, listOk b 2 (B1 / 2)) := by unfold rdTell; rw [if_neg (by omega), if_pos (by omega), hB1, if_pos c]
      rw [e]
      have g1 := hg1 c.1
      have hq2 : IntKind.i64.wrap (((b.length : Int) - 2).tdiv 2) = ((b.length : Int) - 2) / 2 := by rw [Int.tdiv_eq_ediv_of_nonneg (by omega), IntWalk.i64_in _ (by omega)]
      refine FnOk.tree t113 (.a (.at [.int .u8 3]) (.a (.b 65 false) (.a (.at [.int .u8 B1]) (.a (.b 74 false) (.a (.at [.int .u8 B1]) (.f [] hw2 .nil)))))) rfl rfl rfl rfl ?_
      simp [hg0, leVs, leP, leE, leEs, leL, leC, hdr, hq, wu16, -List.getD_eq_getElem?_getD, g1, c.1, c.2, hq2]
      all_goals (repeat' (first | omega | (intro _) | apply And.intro | apply Iff.intro))
    · have e : rdTell 3 n b = ({ fn := 3 }, false) := by unfold rdTell; rw [if_neg (by omega), if_pos (by omega), hB1, if_neg c]
      rw [e]
      by_cases c1 : b.length < 2
      · have c1 : (b.length : Int) < 2 := by omega
        refine FnOk.tree t113 (.a (.at [.int .u8 3]) (.a (.b 65 true) .nil)) rfl rfl rfl rfl ?_
        simp [hg0, leVs, leP, leE, leEs, leL, leC, hdr, hq, wu16, -List.getD_eq_getElem?_getD, c1]
        all_goals (repeat' (first | omega | (intro _) | apply And.intro | apply Iff.intro))
      have g1 := hg1 (by omega)
      refine FnOk.tree t113 (.a (.at [.int .u8 3]) (.a (.b 65 false) (.a (.at [.int .u8 B1]) (.a (.b 74 true) .nil)))) rfl rfl rfl rfl ?_
      simp [hg0, leVs, leP, leE, leEs, leL, leC, hdr, hq, wu16, -List.getD_eq_getElem?_getD, g1]
      all_goals (repeat' (first | omega | (intro _) | apply And.intro | apply Iff.intro))
  by_cases hf4 : fn = 4
  · subst hf4
    by_cases c : 2 ≤ b.length ∧ B1 = (b.length : Int) - 2
    · have e : rdTell 4 n b = ({ fn := 4, words := if listOk b 2 (B1 / 2) then wsAt b 2 (B1 / 2).toNat else [] }, listOk b 2 (B1 / 2)) := by unfold rdTell; rw [if_neg (by omega), if_pos (by omega), hB1, if_pos c]
      rw [e]
      have g1 := hg1 c.1
      have hq2 : IntKind.i64.wrap (((b.length : Int) - 2).tdiv 2) = ((b.length : Int) - 2) / 2 := by rw [Int.tdiv_eq_ediv_of_nonneg (by omega), IntWalk.i64_in _ (by omega)]
      refine FnOk.tree t113 (.a (.at [.int .u8 4]) (.a (.b 65 false) (.a (.at [.int .u8 B1]) (.a (.b 74 false) (.a (.at [.int .u8 B1]) (.f [] hw2 .nil)))))) rfl rfl rfl rfl ?_
      simp [hg0, leVs, leP, leE, leEs, leL, leC, hdr, hq, wu16, -List.getD_eq_getElem?_getD, g1, c.1, c.2, hq2]
      all_goals (repeat' (first | omega | (intro _) | apply And.intro | apply Iff.intro))
    · have e : rdTell 4 n b = ({ fn := 4 }, false) := by unfold rdTell; rw [if_neg (by omega), if_pos (by omega), hB1, if_neg c]
      rw [e]
      by_cases c1 : b.length < 2
      · have c1 : (b.length : Int) < 2 := by omega
        refine FnOk.tree t113 (.a (.at [.int .u8 4]) (.a (.b 65 true) .nil)) rfl rfl rfl rfl ?_
        simp [hg0, leVs, leP, leE, leEs, leL, leC, hdr, hq, wu16, -List.getD_eq_getElem?_getD, c1]
        all_goals (repeat' (first | omega | (intro _) | apply And.intro | apply Iff.intro))
      have g1 := hg1 (by omega)
      refine FnOk.tree t113 (.a (.at [.int .u8 4]) (.a (.b 65 false) (.a (.at [.int .u8 B1]) (.a (.b 74 true) .nil)))) rfl rfl rfl rfl ?_
      simp [hg0, leVs, leP, leE, leEs, leL, leC, hdr, hq, wu16, -List.getD_eq_getElem?_getD, g1]
      all_goals (repeat' (first | omega | (intro _) | apply And.intro | apply Iff.intro))
  by_cases hf23 : fn = 23
  · subst hf23
    by_cases c : 2 ≤ b.length ∧ B1 = (b.length : Int) - 2
    · have e : rdTell 23 n b = ({ fn := 23, words := if listOk b 2 (B1 / 2) then wsAt b 2 (B1 / 2).toNat else [] }, listOk b 2 (B1 / 2)) := by unfold rdTell; rw [if_neg (by omega), if_pos (by omega), hB1, if_pos c]
      rw [e]
      have g1 := hg1 c.1
      have hq2 : IntKind.i64.wrap (((b.length : Int) - 2).tdiv 2) = ((b.length : Int) - 2) / 2 := by rw [Int.tdiv_eq_ediv_of_nonneg (by omega), IntWalk.i64_in _ (by omega)]
      refine FnOk.tree t113 (.a (.at [.int .u8 23]) (.a (.b 65 false) (.a (.at [.int .u8 B1]) (.a (.b 74 false) (.a (.at [.int .u8 B1]) (.f [] hw2 .nil)))))) rfl rfl rfl rfl ?_
      simp [hg0, leVs, leP, leE, leEs, leL, leC, hdr, hq, wu16, -List.getD_eq_getElem?_getD, g1, c.1, c.2, hq2]
      all_goals (repeat' (first | omega | (intro _) | apply And.intro | apply Iff.intro))
    · have e : rdTell 23 n b = ({ fn := 23 }, false) := by unfold rdTell; rw [if_neg (by omega), if_pos (by omega), hB1, if_neg c]
      rw [e]
      by_cases c1 : b.length < 2
      · have c1 : (b.length : Int) < 2 := by omega
        refine FnOk.tree t113 (.a (.at [.int .u8 23]) (.a (.b 65 true) .nil)) rfl rfl rfl rfl ?_
        simp [hg0, leVs, leP, leE, leEs, leL, leC, hdr, hq, wu16, -List.getD_eq_getElem?_getD, c1]
        all_goals (repeat' (first | omega | (intro _) | apply And.intro | apply Iff.intro))
      have g1 := hg1 (by omega)
      refine FnOk.tree t113 (.a (.at [.int .u8 23]) (.a (.b 65 false) (.a (.at [.int .u8 B1]) (.a (.b 74 true) .nil)))) rfl rfl rfl rfl ?_
      simp [hg0, leVs, leP, leE, leEs, leL, leC, hdr, hq, wu16, -List.getD_eq_getElem?_getD, g1]
      all_goals (repeat' (first | omega | (intro _) | apply And.intro | apply Iff.intro))
  by_cases hf5 : fn = 5
  · subst hf5
    by_cases h5 : wOr b 3 = 65280
    · have e : rdTell 5 n b = ({ fn := 5, at_ := wOr b 1, val := 1 }, decide (b.length = 5)) := by simp [rdTell, h5]
      rw [e]
      refine FnOk.tree t113 (.a (.at [.int .u8 5]) (.f [] hw1 (.f [] hw3 (.br 97 (.a (.b 100 false) (.a (.b 106 true) .nil)) (.a (.b 106 true) .nil))))) rfl rfl rfl rfl ?_
      simp [hg0, leVs, leP, leE, leEs, leL, leC, hdr, hq, wu16, -List.getD_eq_getElem?_getD, h5]
      all_goals (repeat' (first | omega | (intro _) | apply And.intro | apply Iff.intro))
    · have e : rdTell 5 n b = ({ fn := 5, at_ := wOr b 1, val := 0 }, decide (b.length = 5) && decide (wOr b 3 = 0)) := by simp [rdTell, h5]
      rw [e]
      refine FnOk.tree t113 (.a (.at [.int .u8 5]) (.f [] hw1 (.f [] hw3 (.br 97 (.br 100 (.a (.b 106 false) .nil) (.a (.b 106 false) .nil)) (.a (.b 106 false) .nil))))) rfl rfl rfl rfl ?_
      simp [hg0, leVs, leP, leE, leEs, leL, leC, hdr, hq, wu16, -List.getD_eq_getElem?_getD, h5]
      all_goals (repeat' (first | omega | (intro _) | apply And.intro | apply Iff.intro))
  by_cases hf6 : fn = 6
  · subst hf6
    have e : rdTell 6 n b = ({ fn := 6, at_ := wOr b 1, val := wOr b 3 }, decide (b.length = 5)) := by simp [rdTell]
    rw [e]
    refine FnOk.tree t113 (.a (.at [.int .u8 6]) (.f [] hw1 (.f [] hw3 .nil))) rfl rfl rfl rfl ?_
    simp [hg0, leVs, leP, leE, leEs, leL, leC, hdr, hq, wu16, -List.getD_eq_getElem?_getD]
    all_goals (repeat' (first | omega | (intro _) | apply And.intro | apply Iff.intro))
  by_cases hf15 : fn = 15
  · subst hf15
    have e : rdTell 15 n b = ({ fn := 15, at_ := wOr b 1, n := wOr b 3 }, decide (b.length = 5)) := by simp [rdTell]
    rw [e]
    refine FnOk.tree t113 (.a (.at [.int .u8 15]) (.f [] hw1 (.f [] hw3 .nil))) rfl rfl rfl rfl ?_
    simp [hg0, leVs, leP, leE, leEs, leL, leC, hdr, hq, wu16, -List.getD_eq_getElem?_getD]
    all_goals (repeat' (first | omega | (intro _) | apply And.intro | apply Iff.intro))
  by_cases hf16 : fn = 16
  · subst hf16
    have e : rdTell 16 n b = ({ fn := 16, at_ := wOr b 1, n := wOr b 3 }, decide (b.length = 5)) := by simp [rdTell]
    rw [e]
    refine FnOk.tree t113 (.a (.at [.int .u8 16]) (.f [] hw1 (.f [] hw3 .nil))) rfl rfl rfl rfl ?_
    simp [hg0, leVs, leP, leE, leEs, leL, leC, hdr, hq, wu16, -List.getD_eq_getElem?_getD]
    all_goals (repeat' (first | omega | (intro _) | apply And.intro | apply Iff.intro))
  by_cases hf22 : fn = 22
  · subst hf22
    have e : rdTell 22 n b = ({ fn := 22, at_ := wOr b 1, and_ := wOr b 3, or_ := wOr b 5 }, decide (b.length = 7)) := by simp [rdTell]
    rw [e]
    refine FnOk.tree t113 (.a (.at [.int .u8 22]) (.f [] hw1 (.f [] hw3 (.f [] hw5 .nil)))) rfl rfl rfl rfl ?_
    simp [hg0, leVs, leP, leE, leEs, leL, leC, hdr, hq, wu16, -List.getD_eq_getElem?_getD]
    all_goals (repeat' (first | omega | (intro _) | apply And.intro | apply Iff.intro))
  by_cases hf43 : fn = 43
  · subst hf43
    have e : rdTell 43 n b = (toldA b, toldB b) := by simp [rdTell]
    rw [e]
    generalize toldA b = A at *
    generalize toldB b = B at *
    refine FnOk.tree t113 (.a (.at [.int .u8 43]) (.f [] hT .nil)) rfl rfl rfl rfl ?_
    simp [hg0, leVs, leP, leE, leEs, leL, leC, hdr, hq, wu16, -List.getD_eq_getElem?_getD]
    all_goals (repeat' (first | omega | (intro _) | apply And.intro | apply Iff.intro))
  have e : rdTell fn n b = ({ fn := fn }, decide (b.length = 5)) := by simp [rdTell, *]
  rw [e]
  refine FnOk.tree t113 (.a (.at [.int .u8 fn]) (.a (.b 23 false) (.a (.b 23 false) (.a (.b 58 false) (.a (.b 58 false) (.a (.b 58 false) (.a (.b 89 false) (.a (.b 108 false) (.a (.b 117 false) (.a (.b 117 false) (.a (.b 126 false) (.a (.b 142 false) .nil)))))))))))) rfl rfl rfl rfl ?_
  simp [hg0, leVs, leP, leE, leEs, leL, leC, hdr, hq, wu16, -List.getD_eq_getElem?_getD, *]
  all_goals (repeat' (first | omega | (intro _) | apply And.intro | apply Iff.intro))
end Go.Proofs.Ytheaeddojcebjaa
