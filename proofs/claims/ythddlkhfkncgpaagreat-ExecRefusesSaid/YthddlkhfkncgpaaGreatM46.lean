/-
  The echo of a request.
-/
import Derived.Test.YthddlkhfkncgpaaGreatM31
import Derived.Test.YthddlkhfkncgpaaGreatM12
set_option maxRecDepth 100000
set_option maxHeartbeats 4000000
set_option linter.unusedVariables false
set_option linter.unusedSimpArgs false
namespace Go.Proofs.YthddlkhfkncgpaaGreat
open Go.RowKit

/-- The echo of a request that writes. -/
def echoT (a : Ask) : Tell :=
  if a.right then
    if a.fn = 5 ∨ a.fn = 6 then { fn := a.fn, at_ := a.at_, val := a.val }
    else if a.fn = 15 ∨ a.fn = 16 then { fn := a.fn, at_ := a.at_, n := a.n }
    else if a.fn = 22 then { fn := a.fn, at_ := a.at_, and_ := a.and_, or_ := a.or_ }
    else {}
  else {}
theorem right_known' {a : Ask} (h : a.right = true) : known a.fn = true := by simp only [Ask.right, Bool.and_eq_true] at h; exact h.1
theorem echo_ok {a : Ask} (hf : a.Fit) : FnOk Tryz.prog 134 [a.v] [] (echoT a).v [] := by
  have hr := askRight_ok hf
  cases h : a.right with
  | false =>
    rw [h] at hr
    have e : echoT a = {} := by unfold echoT; rw [h]; rfl
    rw [e]
    refine FnOk.tree t134 (.f [] hr .nil) rfl rfl rfl rfl ?_
    simp [leVs, leP, leE, leL, leC]
  | true =>
    have hk := right_known' h
    rw [h] at hr
    have hfn := of_decide_eq_true hk
    clear hk
    obtain ⟨fn, at_, n, vl, an, og, bs, ws, ra, rn, cd, ob⟩ := a
    simp only at hfn
    rcases hfn with rfl | rfl | rfl | rfl | rfl | rfl | rfl | rfl | rfl | rfl | rfl
    all_goals
      refine FnOk.tree t134 (.f [] hr .nil) rfl rfl rfl rfl ?_
      simp [leVs, leP, leE, leL, leC, echoT, h]
theorem rEcho_ok {a : Ask} (hf : a.Fit) : FnOk Tryz.prog 23 [a.v] [] (echoT a).v [] := by
  have hr := rRight_ok hf
  cases h : a.right with
  | false =>
    rw [h] at hr
    have e : echoT a = {} := by unfold echoT; rw [h]; rfl
    rw [e]
    refine FnOk.tree t23 (.f [] hr .nil) rfl rfl rfl rfl ?_
    simp [leVs, leP, leE, leL, leC]
  | true =>
    have hk := right_known' h
    rw [h] at hr
    have hfn := of_decide_eq_true hk
    clear hk
    obtain ⟨fn, at_, n, vl, an, og, bs, ws, ra, rn, cd, ob⟩ := a
    simp only at hfn
    rcases hfn with rfl | rfl | rfl | rfl | rfl | rfl | rfl | rfl | rfl | rfl | rfl
    all_goals
      refine FnOk.tree t23 (.f [] hr .nil) rfl rfl rfl rfl ?_
      simp [leVs, leP, leE, leL, leC, echoT, h]
end Go.Proofs.YthddlkhfkncgpaaGreat
