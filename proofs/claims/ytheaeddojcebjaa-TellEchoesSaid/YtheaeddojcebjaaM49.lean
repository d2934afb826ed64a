/-
  The law TellEchoes.
-/
import Derived.Test.YtheaeddojcebjaaM48
import Derived.Test.YtheaeddojcebjaaM20
set_option maxRecDepth 100000
set_option maxHeartbeats 4000000
set_option linter.unusedVariables false
set_option linter.unusedSimpArgs false
namespace Go.Proofs.Ytheaeddojcebjaa
open Go.RowKit

theorem tellEchoes_ok {a : Ask} (hfa : a.bits.length ≤ 2100 → a.words.length ≤ 200 → a.Fit) {k v : Int} (hk : b64 k) (hv : b64 v) : FnOk Try.prog 19 [a.v, vI .i64 k, vI .i64 v] [] (vB true) [] := by
  have haw := awake6_ok
  by_cases c1 : 2100 < a.bits.length
  · refine FnOk.tree t19 (.a (.b 17 true) (.f [] haw .nil)) rfl rfl rfl rfl ?_
    simp [leVs, leP, leE, leL, leC]
    omega
  by_cases c2 : 200 < a.words.length
  · refine FnOk.tree t19 (.a (.b 17 false) (.a (.b 23 true) (.f [] haw .nil))) rfl rfl rfl rfl ?_
    simp [leVs, leP, leE, leL, leC]
    omega
  have hf := hfa (by omega) (by omega)
  have hg := askG_ok hk hv
  obtain ⟨hgf, hgr⟩ := askG_fit k v
  generalize askG k v = g at *
  have e1 := echo_ok hgf
  have e2 := echo_ok hf
  have e3 := rEcho_ok hf
  have e4 := sameTell_ok (echo_fit hf)
  have e5 := rEcho_ok hgf
  have e6 := sameTell_ok (echo_fit hgf)
  have hab := rAskBytes_ok hgf hgr
  have hgk := of_decide_eq_true (right_known' hgr)
  by_cases hw : g.fn = 5 ∨ g.fn = 6 ∨ g.fn = 15 ∨ g.fn = 16 ∨ g.fn = 22
  · obtain ⟨w1, w2, w3, t, w4⟩ := echo_bytes hgr hw
    have hb := tellBR_ok (echo_fit hgf)
    have hbr : tellBR (echoT g) = (tellB (echoT g), 0) := if_pos w1
    rw [hbr] at hb
    rw [w4] at hab
    generalize tellB (echoT g) = B at *
    generalize echoT g = E at *
    have hne : E.fn ≠ 0 := by omega
    refine FnOk.tree t19 (.a (.b 17 false) (.a (.b 23 false) (.f [] haw (.f [] hg (.f [] e1 (.f [] e2 (.f [] e3 (.f [] e4 (.f [] e5 (.f [] e6 (.a (.b 48 false) (.f [] hb (.f [] hab (.a (.b 85 true) (.a (.tx B) (.a (.tx B) .nil)))))))))))))))) rfl rfl rfl rfl ?_
    have q3 : (rI .u8 B).take B.length = B.map (fun n => [D.int .u8 n]) := by rw [rI_take, List.take_length]; rfl
    have q4 : (rI .u8 (B ++ t)).take B.length = B.map (fun n => [D.int .u8 n]) := by rw [rI_take, List.take_append_of_le_length (Nat.le_refl _), List.take_length]; rfl
    simp [leVs, leP, leE, leL, leC, hne, q3, q4, List.take_of_length_le]
    all_goals (repeat' (first | omega | apply And.intro))
  · have he0 : echoT g = {} := by unfold echoT; rw [if_pos hgr, if_neg (by omega), if_neg (by omega), if_neg (by omega)]
    have hg6 : g.fn = 1 ∨ g.fn = 2 ∨ g.fn = 3 ∨ g.fn = 4 ∨ g.fn = 23 ∨ g.fn = 43 := by omega
    rw [he0] at e1 e5 e6
    by_cases w4 : g.fn ≤ 4
    · refine FnOk.tree t19 (.a (.b 17 false) (.a (.b 23 false) (.f [] haw (.f [] hg (.f [] e1 (.f [] e2 (.f [] e3 (.f [] e4 (.f [] e5 (.f [] e6 (.a (.b 52 true) .nil))))))))))) rfl rfl rfl rfl ?_
      simp [leVs, leP, leE, leL, leC, w4]
      all_goals (repeat' (first | omega | apply And.intro))
    by_cases w5 : g.fn = 23
    · refine FnOk.tree t19 (.a (.b 17 false) (.a (.b 23 false) (.f [] haw (.f [] hg (.f [] e1 (.f [] e2 (.f [] e3 (.f [] e4 (.f [] e5 (.f [] e6 (.a (.b 52 false) (.a (.b 57 true) .nil)))))))))))) rfl rfl rfl rfl ?_
      simp [leVs, leP, leE, leL, leC, w5]
      all_goals (repeat' (first | omega | apply And.intro))
    · have w6 : g.fn = 43 := by omega
      refine FnOk.tree t19 (.a (.b 17 false) (.a (.b 23 false) (.f [] haw (.f [] hg (.f [] e1 (.f [] e2 (.f [] e3 (.f [] e4 (.f [] e5 (.f [] e6 (.a (.b 52 false) (.a (.b 57 false) .nil)))))))))))) rfl rfl rfl rfl ?_
      simp [leVs, leP, leE, leL, leC, w6]
      all_goals (repeat' (first | omega | apply And.intro))
end Go.Proofs.Ytheaeddojcebjaa
