/-
  The document's read and Parse.
-/
import Derived.Test.YtheaeddojcebjaaM12
set_option maxRecDepth 100000
set_option maxHeartbeats 4000000
set_option linter.unusedVariables false
set_option linter.unusedSimpArgs false
namespace Go.Proofs.Ytheaeddojcebjaa
open Go.RowKit

theorem unpackL_len' (b : List Int) (n : Int) : (if fit b n then unpackL b n.toNat else []).length ≤ n.toNat := by split <;> simp [unpackL_len]
theorem ws_len' (b : List Int) (k : Nat) (n : Int) : (if listOk b k n then wsAt b k n.toNat else []).length ≤ n.toNat := by split <;> simp [wsAt_len]
theorem ws_wrd {b : List Int} (hb : Byt b) (k : Nat) (n : Int) : Wrd (if listOk b k n then wsAt b k n.toNat else []) := by
  split
  · intro x hx
    simp only [wsAt, List.mem_map] at hx
    obtain ⟨i, _, rfl⟩ := hx
    exact wOr_rng hb _
  · exact wrd_nil
/-- What the document's read gives. -/
def rdAsk (fn : Int) (b : List Int) : Ask × Bool :=
  if fn = 5 then ({ fn := fn, at_ := wOr b 1, val := if wOr b 3 = 65280 then 1 else 0 }, decide (b.length = 5) && decide (wOr b 3 = 0 ∨ wOr b 3 = 65280) && Ask.right { fn := fn, at_ := wOr b 1, val := if wOr b 3 = 65280 then 1 else 0 })
  else if fn = 6 then ({ fn := fn, at_ := wOr b 1, val := wOr b 3 }, decide (b.length = 5) && Ask.right { fn := fn, at_ := wOr b 1, val := wOr b 3 })
  else if fn = 15 then (if b.length < 6 then ({ fn := fn }, false) else ({ fn := fn, at_ := wOr b 1, n := wOr b 3, bits := if fit (b.drop 6) (wOr b 3) then unpackL (b.drop 6) (wOr b 3).toNat else [] },
    fit (b.drop 6) (wOr b 3) && decide (b.getD 5 0 = nBytes (wOr b 3)) && Ask.right { fn := fn, at_ := wOr b 1, n := wOr b 3, bits := if fit (b.drop 6) (wOr b 3) then unpackL (b.drop 6) (wOr b 3).toNat else [] }))
  else if fn = 16 then (if b.length < 6 then ({ fn := fn }, false) else ({ fn := fn, at_ := wOr b 1, n := wOr b 3, words := if listOk b 6 (wOr b 3) then wsAt b 6 (wOr b 3).toNat else [] },
    listOk b 6 (wOr b 3) && decide (b.getD 5 0 = 2 * wOr b 3) && Ask.right { fn := fn, at_ := wOr b 1, n := wOr b 3, words := if listOk b 6 (wOr b 3) then wsAt b 6 (wOr b 3).toNat else [] }))
  else if fn = 22 then ({ fn := fn, at_ := wOr b 1, and_ := wOr b 3, or_ := wOr b 5 }, decide (b.length = 7) && Ask.right { fn := fn, at_ := wOr b 1, and_ := wOr b 3, or_ := wOr b 5 })
  else if fn = 23 then (if b.length < 10 then ({ fn := fn }, false) else ({ fn := fn, ra := wOr b 1, rn := wOr b 3, at_ := wOr b 5, n := wOr b 7, words := if listOk b 10 (wOr b 7) then wsAt b 10 (wOr b 7).toNat else [] },
    listOk b 10 (wOr b 7) && decide (b.getD 9 0 = 2 * wOr b 7) && Ask.right { fn := fn, ra := wOr b 1, rn := wOr b 3, at_ := wOr b 5, n := wOr b 7, words := if listOk b 10 (wOr b 7) then wsAt b 10 (wOr b 7).toNat else [] }))
  else if fn = 43 then (if b.length = 4 then ({ fn := fn, code := b.getD 2 0, obj := b.getD 3 0 }, Ask.right { fn := fn, code := b.getD 2 0, obj := b.getD 3 0 }) else ({ fn := fn }, false))
  else ({ fn := fn, at_ := wOr b 1, n := wOr b 3 }, decide (b.length = 5) && Ask.right { fn := fn, at_ := wOr b 1, n := wOr b 3 })
theorem read_ok {b : List Int} (hb : Byt b) (hl : b.length ≤ 1000) (h0 : 1 ≤ b.length) (hk : known (b.getD 0 0) = true) : FnOk Try.prog 79 [vBy b] [] (.tup [.agg (rdAsk (b.getD 0 0) b).1.cs, .c (.t (.bool (rdAsk (b.getD 0 0) b).2))]) [] := by
  have hg0 := rI_get (k := .u8) (l := b) (i := 0) h0
  have hf := of_decide_eq_true hk
  obtain ⟨fn, hfn⟩ : ∃ fn, b.getD 0 0 = fn := ⟨_, rfl⟩
  rw [hfn] at hg0 hf ⊢
  have hw : ∀ k : Nat, k ≤ 100 → FnOk Try.prog 131 [vBy b, vI .i64 k] [] (vI .i64 (wOr b k)) [] := fun k hk => word_ok hb (by omega) (by omega)
  have hw1 := hw 1 (by omega)
  have hw3 := hw 3 (by omega)
  have hw5 := hw 5 (by omega)
  have hw7 := hw 7 (by omega)
  have r1 := wOr_rng hb 1
  have r3 := wOr_rng hb 3
  have r5 := wOr_rng hb 5
  have r7 := wOr_rng hb 7
  clear hw hk
  rcases hf with rfl | rfl | rfl | rfl | rfl | rfl | rfl | rfl | rfl | rfl | rfl
  · have hr := rRight_ok (a := { fn := 1, at_ := wOr b 1, n := wOr b 3 }) (fitA (by simp [b64]) (by simp <;> omega) (by simp <;> omega) (by simp <;> omega) (by simp <;> omega) (by simp <;> omega) (by simp) (by simp) wrd_nil (by simp <;> omega) (by simp <;> omega) (by simp <;> omega) (by simp <;> omega))
    refine FnOk.tree t79 (.a (.at [.int .u8 1]) (.f [] hw1 (.f [] hw3 (.br 199 (.f [] hr .nil) .nil)))) rfl rfl rfl rfl ?_
    simp [hg0, leVs, leP, leE, leEs, leL, leC, rdAsk, wu16]
    all_goals (repeat (first | omega | (intro _) | apply And.intro | apply Iff.intro))
  · have hr := rRight_ok (a := { fn := 2, at_ := wOr b 1, n := wOr b 3 }) (fitA (by simp [b64]) (by simp <;> omega) (by simp <;> omega) (by simp <;> omega) (by simp <;> omega) (by simp <;> omega) (by simp) (by simp) wrd_nil (by simp <;> omega) (by simp <;> omega) (by simp <;> omega) (by simp <;> omega))
    refine FnOk.tree t79 (.a (.at [.int .u8 2]) (.f [] hw1 (.f [] hw3 (.br 199 (.f [] hr .nil) .nil)))) rfl rfl rfl rfl ?_
    simp [hg0, leVs, leP, leE, leEs, leL, leC, rdAsk, wu16]
    all_goals (repeat (first | omega | (intro _) | apply And.intro | apply Iff.intro))
  · have hr := rRight_ok (a := { fn := 3, at_ := wOr b 1, n := wOr b 3 }) (fitA (by simp [b64]) (by simp <;> omega) (by simp <;> omega) (by simp <;> omega) (by simp <;> omega) (by simp <;> omega) (by simp) (by simp) wrd_nil (by simp <;> omega) (by simp <;> omega) (by simp <;> omega) (by simp <;> omega))
    refine FnOk.tree t79 (.a (.at [.int .u8 3]) (.f [] hw1 (.f [] hw3 (.br 199 (.f [] hr .nil) .nil)))) rfl rfl rfl rfl ?_
    simp [hg0, leVs, leP, leE, leEs, leL, leC, rdAsk, wu16]
    all_goals (repeat (first | omega | (intro _) | apply And.intro | apply Iff.intro))
  · have hr := rRight_ok (a := { fn := 4, at_ := wOr b 1, n := wOr b 3 }) (fitA (by simp [b64]) (by simp <;> omega) (by simp <;> omega) (by simp <;> omega) (by simp <;> omega) (by simp <;> omega) (by simp) (by simp) wrd_nil (by simp <;> omega) (by simp <;> omega) (by simp <;> omega) (by simp <;> omega))
    refine FnOk.tree t79 (.a (.at [.int .u8 4]) (.f [] hw1 (.f [] hw3 (.br 199 (.f [] hr .nil) .nil)))) rfl rfl rfl rfl ?_
    simp [hg0, leVs, leP, leE, leEs, leL, leC, rdAsk, wu16]
    all_goals (repeat (first | omega | (intro _) | apply And.intro | apply Iff.intro))
  · by_cases h5 : wOr b 3 = 65280
    · have hr := rRight_ok (a := { fn := 5, at_ := wOr b 1, val := 1 }) (fitA (by simp [b64]) (by simp <;> omega) (by simp <;> omega) (by simp <;> omega) (by simp <;> omega) (by simp <;> omega) (by simp) (by simp) wrd_nil (by simp <;> omega) (by simp <;> omega) (by simp <;> omega) (by simp <;> omega))
      refine FnOk.tree t79 (.a (.at [.int .u8 5]) (.f [] hw1 (.f [] hw3 (.br 42 (.br 45 (.br 51 (.f [] hr .nil) (.f [] hr .nil)) (.br 51 (.br 199 (.f [] hr .nil) .nil) (.br 199 (.f [] hr .nil) .nil))) (.br 51 .nil .nil))))) rfl rfl rfl rfl ?_
      simp [hg0, leVs, leP, leE, leEs, leL, leC, rdAsk, h5, wu16]
      all_goals (repeat (first | omega | (intro _) | apply And.intro | apply Iff.intro))
    · have hr := rRight_ok (a := { fn := 5, at_ := wOr b 1, val := 0 }) (fitA (by simp [b64]) (by simp <;> omega) (by simp <;> omega) (by simp <;> omega) (by simp <;> omega) (by simp <;> omega) (by simp) (by simp) wrd_nil (by simp <;> omega) (by simp <;> omega) (by simp <;> omega) (by simp <;> omega))
      refine FnOk.tree t79 (.a (.at [.int .u8 5]) (.f [] hw1 (.f [] hw3 (.br 42 (.br 45 (.br 51 (.f [] hr .nil) (.f [] hr .nil)) (.br 51 (.br 199 (.f [] hr .nil) .nil) (.br 199 (.f [] hr .nil) .nil))) (.br 51 .nil .nil))))) rfl rfl rfl rfl ?_
      simp [hg0, leVs, leP, leE, leEs, leL, leC, rdAsk, h5, wu16]
      all_goals (repeat (first | omega | (intro _) | apply And.intro | apply Iff.intro))
  · have hr := rRight_ok (a := { fn := 6, at_ := wOr b 1, val := wOr b 3 }) (fitA (by simp [b64]) (by simp <;> omega) (by simp <;> omega) (by simp <;> omega) (by simp <;> omega) (by simp <;> omega) (by simp) (by simp) wrd_nil (by simp <;> omega) (by simp <;> omega) (by simp <;> omega) (by simp <;> omega))
    refine FnOk.tree t79 (.a (.at [.int .u8 6]) (.f [] hw1 (.f [] hw3 (.br 199 (.f [] hr .nil) .nil)))) rfl rfl rfl rfl ?_
    simp [hg0, leVs, leP, leE, leEs, leL, leC, rdAsk, wu16]
    all_goals (repeat (first | omega | (intro _) | apply And.intro | apply Iff.intro))
  · by_cases h6 : b.length < 6
    · refine FnOk.tree t79 (.a (.at [.int .u8 15]) (.a (.b 66 true) .nil)) rfl rfl rfl rfl ?_
      simp [hg0, leVs, leP, leE, leEs, leL, leC, rdAsk, h6, wu16]
      all_goals (repeat (first | omega | (intro _) | apply And.intro | apply Iff.intro))
    · have hd : ∀ k, Byt (b.drop k) := fun k x hx => hb x (List.mem_of_mem_drop hx)
      have hL := unpackL_len' (b.drop 6) (wOr b 3)
      have hu := rUnpack_ok (b := b.drop 6) (n := wOr b 3) (hd 6) (by simp; omega) (by omega)
      have hy := rBytes_ok (wOr b 3) (by omega)
      have g5 := rI_get (k := .u8) (l := b) (i := 5) (by omega)
      have e5 := at_byt hb 5
      have he : rdAsk 15 b = ({ fn := 15, at_ := wOr b 1, n := wOr b 3, bits := (if fit (b.drop 6) (wOr b 3) then unpackL (b.drop 6) (wOr b 3).toNat else []) },
    fit (b.drop 6) (wOr b 3) && decide (b.getD 5 0 = nBytes (wOr b 3)) && Ask.right { fn := 15, at_ := wOr b 1, n := wOr b 3, bits := (if fit (b.drop 6) (wOr b 3) then unpackL (b.drop 6) (wOr b 3).toNat else []) }) := by simp [rdAsk, h6]
      rw [he]
      generalize (if fit (b.drop 6) (wOr b 3) then unpackL (b.drop 6) (wOr b 3).toNat else []) = bl at *
      generalize fit (b.drop 6) (wOr b 3) = lo at *
      generalize b.getD 5 0 = x5 at *
      clear he
      have hr := rRight_ok (a := { fn := 15, at_ := wOr b 1, n := wOr b 3, bits := bl }) ⟨by simp [b64], by simp [b64] <;> omega, by simp [b64] <;> omega, by simp, by simp, by simp, by simp <;> omega, by simp <;> omega, wrd_nil, by simp [b64] <;> omega, by simp [b64] <;> omega, by simp only [b64] <;> omega, by simp only [b64] <;> omega⟩
      refine FnOk.tree t79 (.a (.at [.int .u8 15]) (.a (.b 66 false) (.f [] hw1 (.f [] hw3 (.f [] hu (.br 85 (.a (.at [.int .u8 x5]) (.f [] hy (.br 199 (.f [] hr .nil) .nil))) .nil)))))) rfl rfl rfl rfl ?_
      simp +contextual [hg0, leVs, leP, leE, leEs, leL, leC, rdAsk, wu16, rI_drop, rI_take, List.take_of_length_le, h6, g5]
      all_goals (repeat (first | omega | (intro _) | apply And.intro | apply Iff.intro))
  · by_cases h6 : b.length < 6
    · refine FnOk.tree t79 (.a (.at [.int .u8 16]) (.a (.b 99 true) .nil)) rfl rfl rfl rfl ?_
      simp [hg0, leVs, leP, leE, leEs, leL, leC, rdAsk, h6, wu16]
      all_goals (repeat (first | omega | (intro _) | apply And.intro | apply Iff.intro))
    · have hd : ∀ k, Byt (b.drop k) := fun k x hx => hb x (List.mem_of_mem_drop hx)
      have hL := ws_len' b 6 (wOr b 3)
      have hW := ws_wrd hb 6 (wOr b 3)
      have hu := list_ok (b := b) (k := 6) (n := wOr b 3) hb (by omega) (by omega) (by omega)
      have g5 := rI_get (k := .u8) (l := b) (i := 5) (by omega)
      have e5 := at_byt hb 5
      have he : rdAsk 16 b = ({ fn := 16, at_ := wOr b 1, n := wOr b 3, words := (if listOk b 6 (wOr b 3) then wsAt b 6 (wOr b 3).toNat else []) }, listOk b 6 (wOr b 3) && decide (b.getD 5 0 = 2 * wOr b 3) && Ask.right { fn := 16, at_ := wOr b 1, n := wOr b 3, words := (if listOk b 6 (wOr b 3) then wsAt b 6 (wOr b 3).toNat else []) }) := by simp [rdAsk, h6]
      rw [he]
      generalize (if listOk b 6 (wOr b 3) then wsAt b 6 (wOr b 3).toNat else []) = bl at *
      generalize listOk b 6 (wOr b 3) = lo at *
      generalize b.getD 5 0 = x5 at *
      clear he
      have hr := rRight_ok (a := { fn := 16, at_ := wOr b 1, n := wOr b 3, words := bl }) ⟨by simp [b64], by simp [b64] <;> omega, by simp [b64] <;> omega, by simp, by simp, by simp, by simp <;> omega, by simp <;> omega, hW, by simp [b64] <;> omega, by simp [b64] <;> omega, by simp only [b64] <;> omega, by simp only [b64] <;> omega⟩
      refine FnOk.tree t79 (.a (.at [.int .u8 16]) (.a (.b 99 false) (.f [] hw1 (.f [] hw3 (.f [] hu (.br 117 (.a (.at [.int .u8 x5]) (.br 199 (.f [] hr .nil) .nil)) .nil)))))) rfl rfl rfl rfl ?_
      simp +contextual [hg0, leVs, leP, leE, leEs, leL, leC, rdAsk, wu16, rI_drop, rI_take, List.take_of_length_le, h6, g5]
      all_goals (repeat (first | omega | (intro _) | apply And.intro | apply Iff.intro))
  · have hr := rRight_ok (a := { fn := 22, at_ := wOr b 1, and_ := wOr b 3, or_ := wOr b 5 }) (fitA (by simp [b64]) (by simp <;> omega) (by simp <;> omega) (by simp <;> omega) (by simp <;> omega) (by simp <;> omega) (by simp) (by simp) wrd_nil (by simp <;> omega) (by simp <;> omega) (by simp <;> omega) (by simp <;> omega))
    refine FnOk.tree t79 (.a (.at [.int .u8 22]) (.f [] hw1 (.f [] hw3 (.f [] hw5 (.br 199 (.f [] hr .nil) .nil))))) rfl rfl rfl rfl ?_
    simp [hg0, leVs, leP, leE, leEs, leL, leC, rdAsk, wu16]
    all_goals (repeat (first | omega | (intro _) | apply And.intro | apply Iff.intro))
  · by_cases h6 : b.length < 10
    · refine FnOk.tree t79 (.a (.at [.int .u8 23]) (.a (.b 147 true) .nil)) rfl rfl rfl rfl ?_
      simp [hg0, leVs, leP, leE, leEs, leL, leC, rdAsk, h6, wu16]
      all_goals (repeat (first | omega | (intro _) | apply And.intro | apply Iff.intro))
    · have hd : ∀ k, Byt (b.drop k) := fun k x hx => hb x (List.mem_of_mem_drop hx)
      have hL := ws_len' b 10 (wOr b 7)
      have hW := ws_wrd hb 10 (wOr b 7)
      have hu := list_ok (b := b) (k := 10) (n := wOr b 7) hb (by omega) (by omega) (by omega)
      have g5 := rI_get (k := .u8) (l := b) (i := 9) (by omega)
      have e5 := at_byt hb 9
      have he : rdAsk 23 b = ({ fn := 23, ra := wOr b 1, rn := wOr b 3, at_ := wOr b 5, n := wOr b 7, words := (if listOk b 10 (wOr b 7) then wsAt b 10 (wOr b 7).toNat else []) }, listOk b 10 (wOr b 7) && decide (b.getD 9 0 = 2 * wOr b 7) && Ask.right { fn := 23, ra := wOr b 1, rn := wOr b 3, at_ := wOr b 5, n := wOr b 7, words := (if listOk b 10 (wOr b 7) then wsAt b 10 (wOr b 7).toNat else []) }) := by simp [rdAsk, h6]
      rw [he]
      generalize (if listOk b 10 (wOr b 7) then wsAt b 10 (wOr b 7).toNat else []) = bl at *
      generalize listOk b 10 (wOr b 7) = lo at *
      generalize b.getD 9 0 = x5 at *
      clear he
      have hr := rRight_ok (a := { fn := 23, ra := wOr b 1, rn := wOr b 3, at_ := wOr b 5, n := wOr b 7, words := bl }) ⟨by simp [b64], by simp [b64] <;> omega, by simp [b64] <;> omega, by simp, by simp, by simp, by simp <;> omega, by simp <;> omega, hW, by simp [b64] <;> omega, by simp [b64] <;> omega, by simp only [b64] <;> omega, by simp only [b64] <;> omega⟩
      refine FnOk.tree t79 (.a (.at [.int .u8 23]) (.a (.b 147 false) (.f [] hw1 (.f [] hw3 (.f [] hw5 (.f [] hw7 (.f [] hu (.br 171 (.a (.at [.int .u8 x5]) (.br 199 (.f [] hr .nil) .nil)) .nil)))))))) rfl rfl rfl rfl ?_
      simp +contextual [hg0, leVs, leP, leE, leEs, leL, leC, rdAsk, wu16, rI_drop, rI_take, List.take_of_length_le, h6, g5]
      all_goals (repeat (first | omega | (intro _) | apply And.intro | apply Iff.intro))
  · by_cases h6 : ¬ b.length = 4
    · refine FnOk.tree t79 (.a (.at [.int .u8 43]) (.a (.b 185 true) .nil)) rfl rfl rfl rfl ?_
      simp [hg0, leVs, leP, leE, leEs, leL, leC, rdAsk, h6, wu16]
      all_goals (repeat (first | omega | (intro _) | apply And.intro | apply Iff.intro))
    · have hd : ∀ k, Byt (b.drop k) := fun k x hx => hb x (List.mem_of_mem_drop hx)
      have e2 := at_byt hb 2
      have e3 := at_byt hb 3
      have h6 : b.length = 4 := by omega
      have g2 := rI_get (k := .u8) (l := b) (i := 2) (by omega)
      have g3 := rI_get (k := .u8) (l := b) (i := 3) (by omega)
      have h7 : (b.length : Int) = 4 := by omega
      have he : rdAsk 43 b = ({ fn := 43, code := b.getD 2 0, obj := b.getD 3 0 }, Ask.right { fn := 43, code := b.getD 2 0, obj := b.getD 3 0 }) := by simp [rdAsk, h6]
      rw [he]
      generalize b.getD 2 0 = x2 at *
      generalize b.getD 3 0 = x3 at *
      clear he
      have hr := rRight_ok (a := { fn := 43, code := x2, obj := x3 }) ⟨by simp [b64], by simp [b64] <;> omega, by simp [b64] <;> omega, by simp, by simp, by simp, by simp <;> omega, by simp <;> omega, wrd_nil, by simp [b64] <;> omega, by simp [b64] <;> omega, by simp only [b64] <;> omega, by simp only [b64] <;> omega⟩
      refine FnOk.tree t79 (.a (.at [.int .u8 43]) (.a (.b 185 false) (.a (.at [.int .u8 x2]) (.a (.at [.int .u8 x3]) (.f [] hr .nil))))) rfl rfl rfl rfl ?_
      simp +contextual [hg0, leVs, leP, leE, leEs, leL, leC, rdAsk, wu16, rI_drop, rI_take, List.take_of_length_le, h7, g2, g3]
      all_goals (repeat (first | omega | (intro _) | apply And.intro | apply Iff.intro))
end Go.Proofs.Ytheaeddojcebjaa
