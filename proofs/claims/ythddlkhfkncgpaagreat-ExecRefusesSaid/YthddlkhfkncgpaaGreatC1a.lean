/-
  The document's Get.
-/
import Derived.Test.YthddlkhfkncgpaaGreatC1
set_option maxRecDepth 100000
set_option maxHeartbeats 1000000
set_option linter.unusedVariables false
set_option linter.unusedSimpArgs false
namespace Go.Proofs.YthddlkhfkncgpaaGreat
open Go.RowKit

theorem get16_ok {l : List Cel} (hl : l.length ≤ 1000000000) {t a : Int} : FnOk Tryz.prog 152 [vCl l, vK t a] [] (.tup [.c (.t (.int .u16 (getL l t a).1)), .c (.t (.bool (getL l t a).2))]) [] := by
  have hf := find16_ok (l := l) hl (t := t) (a := a)
  unfold getL
  unfold hitL at *
  generalize findL l t a = i at *
  by_cases h : i < l.length
  · have hg := rwC_get h
    rw [List.getElem?_eq_getElem h] at *
    generalize l[i] = c at *
    simp only at *
    cases hb : (c.1 == t && c.2.1 == a) with
    | true =>
      rw [hb] at hf
      refine FnOk.tree t152 (.f [] hf (.a (.b 15 false) (.a (.at [.int .i64 c.1, .int .i64 c.2.1, .int .u16 c.2.2]) .nil))) rfl rfl rfl rfl ?_
      simp [leVs, leP, leE, leL, leEs, leC]
      exact ⟨h, hg⟩
    | false =>
      rw [hb] at hf
      exact FnOk.tree t152 (.f [] hf (.a (.b 15 true) .nil)) rfl rfl rfl rfl (by simp [leVs, leP, leE, leL, leEs, leC])
  · rw [List.getElem?_eq_none (by omega)] at *
    exact FnOk.tree t152 (.f [] hf (.a (.b 15 true) .nil)) rfl rfl rfl rfl (by simp [leVs, leP, leE, leL, leEs, leC])
end Go.Proofs.YthddlkhfkncgpaaGreat
