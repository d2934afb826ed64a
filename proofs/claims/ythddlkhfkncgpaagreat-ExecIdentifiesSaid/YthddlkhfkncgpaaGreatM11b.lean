/-
  Lists held against themselves.
-/
import Derived.Test.YthddlkhfkncgpaaGreatM2
set_option maxRecDepth 100000
set_option maxHeartbeats 4000000
set_option linter.unusedVariables false
set_option linter.unusedSimpArgs false
namespace Go.Proofs.YthddlkhfkncgpaaGreat
open Go.RowKit

theorem sameBits_ok {l : List Bool} (hl : l.length ≤ 1000000000000) : FnOk Tryz.prog 74 [vFs l, vFs l] [] (vB true) [] := by
  refine FnOk.start t74 rfl rfl rfl ?_
  refine Tri.seq (Tri.go [] rfl trivial ?_)
  refine Tri.seq (Tri.go [.b 10 false] rfl ⟨by simp, trivial⟩ ?_)
  refine Tri.seq (Tri.seq (Tri.go [] rfl trivial ?_))
  refine Tri.block ?_
  refine Tri.lp (fun m ρ hl => ∃ i, m = l.length - i ∧ i ≤ l.length ∧ hl = [] ∧ keepE ρ [0, 1, 5] = some [(0, vFs l), (1, vFs l), (5, vI .i64 i)]) l.length ⟨0, by omega, by omega, rfl, keep_of rfl (by simp)⟩ ?_
  rintro m ρ hl' ⟨i, rfl, hi, rfl, hk⟩
  refine Tri.keep _ hk ?_
  by_cases h : i < l.length
  · refine Tri.go [.b 14 true, .at [.bool (l.getD i false)], .at [.bool (l.getD i false)], .b 25 false] rfl ?_ (again (l.length - (i + 1)) (by omega) ⟨i + 1, rfl, by omega, rfl, keep_of rfl (by simp)⟩)
    exact ⟨decide_eq_true (by omega), ⟨by omega, rfl, rF_get h⟩, ⟨by omega, rfl, rF_get h⟩, by simp, by omega, trivial⟩
  · refine Tri.go [.b 14 false] rfl ⟨decide_eq_false (by omega), trivial⟩ (outQ ?_)
    exact Tri.go [] rfl trivial (RetQ.of [] [] rfl trivial (.refl _) rfl)
theorem sameWords_ok {l : List Int} (hl : l.length ≤ 1000000000000) : FnOk Tryz.prog 75 [vWd l, vWd l] [] (vB true) [] := by
  refine FnOk.start t75 rfl rfl rfl ?_
  refine Tri.seq (Tri.go [] rfl trivial ?_)
  refine Tri.seq (Tri.go [.b 10 false] rfl ⟨by simp, trivial⟩ ?_)
  refine Tri.seq (Tri.seq (Tri.go [] rfl trivial ?_))
  refine Tri.block ?_
  refine Tri.lp (fun m ρ hl => ∃ i, m = l.length - i ∧ i ≤ l.length ∧ hl = [] ∧ keepE ρ [0, 1, 5] = some [(0, vWd l), (1, vWd l), (5, vI .i64 i)]) l.length ⟨0, by omega, by omega, rfl, keep_of rfl (by simp)⟩ ?_
  rintro m ρ hl' ⟨i, rfl, hi, rfl, hk⟩
  refine Tri.keep _ hk ?_
  by_cases h : i < l.length
  · refine Tri.go [.b 14 true, .at [.int .u16 (l.getD i 0)], .at [.int .u16 (l.getD i 0)], .b 25 false] rfl ?_ (again (l.length - (i + 1)) (by omega) ⟨i + 1, rfl, by omega, rfl, keep_of rfl (by simp)⟩)
    exact ⟨decide_eq_true (by omega), ⟨by omega, rfl, rI_get h⟩, ⟨by omega, rfl, rI_get h⟩, by simp, by omega, trivial⟩
  · refine Tri.go [.b 14 false] rfl ⟨decide_eq_false (by omega), trivial⟩ (outQ ?_)
    exact Tri.go [] rfl trivial (RetQ.of [] [] rfl trivial (.refl _) rfl)
end Go.Proofs.YthddlkhfkncgpaaGreat
