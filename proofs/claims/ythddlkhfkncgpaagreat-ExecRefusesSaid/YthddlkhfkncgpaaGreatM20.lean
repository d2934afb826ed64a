/-
  The spans of a request.
-/
import Derived.Test.YthddlkhfkncgpaaGreatM19
import Derived.Test.YthddlkhfkncgpaaGreatM12
import Derived.Test.YthddlkhfkncgpaaGreatT0p
set_option maxRecDepth 100000
set_option maxHeartbeats 4000000
set_option linter.unusedVariables false
set_option linter.unusedSimpArgs false
namespace Go.Proofs.YthddlkhfkncgpaaGreat
open Go.RowKit

@[simp] theorem rwS_nil : rwS [] = [] := rfl
/-- What a request that is right reads, and writes. -/
def spans (a : Ask) : List Spn × List Spn :=
  if a.right = false then ([], [])
  else if a.fn = 23 then ([((kTab a.fn).1, a.ra, a.ra + a.rn)], [((kTab a.fn).1, a.at_, a.at_ + a.n)])
  else if a.fn = 15 ∨ a.fn = 16 then ([], [((kTab a.fn).1, a.at_, a.at_ + a.n)])
  else if a.fn = 5 ∨ a.fn = 6 ∨ a.fn = 22 then ([], [((kTab a.fn).1, a.at_, a.at_ + 1)])
  else if a.fn = 43 then ([], [])
  else ([((kTab a.fn).1, a.at_, a.at_ + a.n)], [])
abbrev spanR (r : List Spn × List Spn) : V := .tup [.c (.t (lSp r.1)), .c (.t (lSp r.2))]
theorem spans_ok {a : Ask} (hf : a.Fit) : FnOk Tryz.prog 64 [a.v] [] (spanR (spans a)) [] := by
  have hr := askRight_ok hf
  cases h : a.right with
  | false =>
    rw [h] at hr
    exact FnOk.tree t64 (.f [] hr .nil) rfl rfl rfl rfl (by simp [leVs, leP, leE, leEs, leC, spans, h])
  | true =>
  have hk := right_known h
  have h' := h
  rw [h] at hr
  have ht := kTable_ok a.fn
  have hfn := of_decide_eq_true hk
  clear hk
  obtain ⟨fn, at_, n, vl, an, og, bs, ws, ra, rn, cd, ob⟩ := a
  simp only at hfn ht
  rcases hfn with rfl | rfl | rfl | rfl | rfl | rfl | rfl | rfl | rfl | rfl | rfl
  · simp [Ask.right, Ask.same, Ask.only, Ask.rest, known, countsB, kMost, placeB] at h
    refine FnOk.tree t64 (.f [] hr (.f [] ht .nil)) rfl rfl rfl rfl ?_
    simp [leVs, leP, leE, leEs, leC, spans, h', kTab, rTab, rwS]
    all_goals (repeat (first | omega | (intro _) | apply And.intro))
  · simp [Ask.right, Ask.same, Ask.only, Ask.rest, known, countsB, kMost, placeB] at h
    refine FnOk.tree t64 (.f [] hr (.f [] ht .nil)) rfl rfl rfl rfl ?_
    simp [leVs, leP, leE, leEs, leC, spans, h', kTab, rTab, rwS]
    all_goals (repeat (first | omega | (intro _) | apply And.intro))
  · simp [Ask.right, Ask.same, Ask.only, Ask.rest, known, countsB, kMost, placeB] at h
    refine FnOk.tree t64 (.f [] hr (.f [] ht .nil)) rfl rfl rfl rfl ?_
    simp [leVs, leP, leE, leEs, leC, spans, h', kTab, rTab, rwS]
    all_goals (repeat (first | omega | (intro _) | apply And.intro))
  · simp [Ask.right, Ask.same, Ask.only, Ask.rest, known, countsB, kMost, placeB] at h
    refine FnOk.tree t64 (.f [] hr (.f [] ht .nil)) rfl rfl rfl rfl ?_
    simp [leVs, leP, leE, leEs, leC, spans, h', kTab, rTab, rwS]
    all_goals (repeat (first | omega | (intro _) | apply And.intro))
  · simp [Ask.right, Ask.same, Ask.only, Ask.rest, known, countsB, kMost, placeB] at h
    refine FnOk.tree t64 (.f [] hr (.f [] ht .nil)) rfl rfl rfl rfl ?_
    simp [leVs, leP, leE, leEs, leC, spans, h', kTab, rTab, rwS]
    all_goals (repeat (first | omega | (intro _) | apply And.intro))
  · simp [Ask.right, Ask.same, Ask.only, Ask.rest, known, countsB, kMost, placeB] at h
    refine FnOk.tree t64 (.f [] hr (.f [] ht .nil)) rfl rfl rfl rfl ?_
    simp [leVs, leP, leE, leEs, leC, spans, h', kTab, rTab, rwS]
    all_goals (repeat (first | omega | (intro _) | apply And.intro))
  · simp [Ask.right, Ask.same, Ask.only, Ask.rest, known, countsB, kMost, placeB] at h
    refine FnOk.tree t64 (.f [] hr (.f [] ht .nil)) rfl rfl rfl rfl ?_
    simp [leVs, leP, leE, leEs, leC, spans, h', kTab, rTab, rwS]
    all_goals (repeat (first | omega | (intro _) | apply And.intro))
  · simp [Ask.right, Ask.same, Ask.only, Ask.rest, known, countsB, kMost, placeB] at h
    refine FnOk.tree t64 (.f [] hr (.f [] ht .nil)) rfl rfl rfl rfl ?_
    simp [leVs, leP, leE, leEs, leC, spans, h', kTab, rTab, rwS]
    all_goals (repeat (first | omega | (intro _) | apply And.intro))
  · simp [Ask.right, Ask.same, Ask.only, Ask.rest, known, countsB, kMost, placeB] at h
    refine FnOk.tree t64 (.f [] hr (.f [] ht .nil)) rfl rfl rfl rfl ?_
    simp [leVs, leP, leE, leEs, leC, spans, h', kTab, rTab, rwS]
    all_goals (repeat (first | omega | (intro _) | apply And.intro))
  · simp [Ask.right, Ask.same, Ask.only, Ask.rest, known, countsB, kMost, placeB] at h
    refine FnOk.tree t64 (.f [] hr (.f [] ht .nil)) rfl rfl rfl rfl ?_
    simp [leVs, leP, leE, leEs, leC, spans, h', kTab, rTab, rwS]
    all_goals (repeat (first | omega | (intro _) | apply And.intro))
  · simp [Ask.right, Ask.same, Ask.only, Ask.rest, known, countsB, kMost, placeB] at h
    refine FnOk.tree t64 (.f [] hr (.f [] ht .nil)) rfl rfl rfl rfl ?_
    simp [leVs, leP, leE, leEs, leC, spans, h', kTab, rTab, rwS]
    all_goals (repeat (first | omega | (intro _) | apply And.intro))
theorem rSpans_ok {a : Ask} (hf : a.Fit) : FnOk Tryz.prog 88 [a.v] [] (spanR (spans a)) [] := by
  have hr := rRight_ok hf
  cases h : a.right with
  | false =>
    rw [h] at hr
    exact FnOk.tree t88 (.f [] hr .nil) rfl rfl rfl rfl (by simp [leVs, leP, leE, leEs, leC, spans, h])
  | true =>
  have hk := right_known h
  have h' := h
  rw [h] at hr
  have ht := rTable_ok a.fn
  have hfn := of_decide_eq_true hk
  clear hk
  obtain ⟨fn, at_, n, vl, an, og, bs, ws, ra, rn, cd, ob⟩ := a
  simp only at hfn ht
  rcases hfn with rfl | rfl | rfl | rfl | rfl | rfl | rfl | rfl | rfl | rfl | rfl
  · simp [Ask.right, Ask.same, Ask.only, Ask.rest, known, countsB, kMost, placeB] at h
    refine FnOk.tree t88 (.f [] hr (.f [] ht .nil)) rfl rfl rfl rfl ?_
    simp [leVs, leP, leE, leEs, leC, spans, h', kTab, rTab, rwS]
    all_goals (repeat (first | omega | (intro _) | apply And.intro))
  · simp [Ask.right, Ask.same, Ask.only, Ask.rest, known, countsB, kMost, placeB] at h
    refine FnOk.tree t88 (.f [] hr (.f [] ht .nil)) rfl rfl rfl rfl ?_
    simp [leVs, leP, leE, leEs, leC, spans, h', kTab, rTab, rwS]
    all_goals (repeat (first | omega | (intro _) | apply And.intro))
  · simp [Ask.right, Ask.same, Ask.only, Ask.rest, known, countsB, kMost, placeB] at h
    refine FnOk.tree t88 (.f [] hr (.f [] ht .nil)) rfl rfl rfl rfl ?_
    simp [leVs, leP, leE, leEs, leC, spans, h', kTab, rTab, rwS]
    all_goals (repeat (first | omega | (intro _) | apply And.intro))
  · simp [Ask.right, Ask.same, Ask.only, Ask.rest, known, countsB, kMost, placeB] at h
    refine FnOk.tree t88 (.f [] hr (.f [] ht .nil)) rfl rfl rfl rfl ?_
    simp [leVs, leP, leE, leEs, leC, spans, h', kTab, rTab, rwS]
    all_goals (repeat (first | omega | (intro _) | apply And.intro))
  · simp [Ask.right, Ask.same, Ask.only, Ask.rest, known, countsB, kMost, placeB] at h
    refine FnOk.tree t88 (.f [] hr (.f [] ht .nil)) rfl rfl rfl rfl ?_
    simp [leVs, leP, leE, leEs, leC, spans, h', kTab, rTab, rwS]
    all_goals (repeat (first | omega | (intro _) | apply And.intro))
  · simp [Ask.right, Ask.same, Ask.only, Ask.rest, known, countsB, kMost, placeB] at h
    refine FnOk.tree t88 (.f [] hr (.f [] ht .nil)) rfl rfl rfl rfl ?_
    simp [leVs, leP, leE, leEs, leC, spans, h', kTab, rTab, rwS]
    all_goals (repeat (first | omega | (intro _) | apply And.intro))
  · simp [Ask.right, Ask.same, Ask.only, Ask.rest, known, countsB, kMost, placeB] at h
    refine FnOk.tree t88 (.f [] hr (.f [] ht .nil)) rfl rfl rfl rfl ?_
    simp [leVs, leP, leE, leEs, leC, spans, h', kTab, rTab, rwS]
    all_goals (repeat (first | omega | (intro _) | apply And.intro))
  · simp [Ask.right, Ask.same, Ask.only, Ask.rest, known, countsB, kMost, placeB] at h
    refine FnOk.tree t88 (.f [] hr (.f [] ht .nil)) rfl rfl rfl rfl ?_
    simp [leVs, leP, leE, leEs, leC, spans, h', kTab, rTab, rwS]
    all_goals (repeat (first | omega | (intro _) | apply And.intro))
  · simp [Ask.right, Ask.same, Ask.only, Ask.rest, known, countsB, kMost, placeB] at h
    refine FnOk.tree t88 (.f [] hr (.f [] ht .nil)) rfl rfl rfl rfl ?_
    simp [leVs, leP, leE, leEs, leC, spans, h', kTab, rTab, rwS]
    all_goals (repeat (first | omega | (intro _) | apply And.intro))
  · simp [Ask.right, Ask.same, Ask.only, Ask.rest, known, countsB, kMost, placeB] at h
    refine FnOk.tree t88 (.f [] hr (.f [] ht .nil)) rfl rfl rfl rfl ?_
    simp [leVs, leP, leE, leEs, leC, spans, h', kTab, rTab, rwS]
    all_goals (repeat (first | omega | (intro _) | apply And.intro))
  · simp [Ask.right, Ask.same, Ask.only, Ask.rest, known, countsB, kMost, placeB] at h
    refine FnOk.tree t88 (.f [] hr (.f [] ht .nil)) rfl rfl rfl rfl ?_
    simp [leVs, leP, leE, leEs, leC, spans, h', kTab, rTab, rwS]
    all_goals (repeat (first | omega | (intro _) | apply And.intro))
end Go.Proofs.YthddlkhfkncgpaaGreat
