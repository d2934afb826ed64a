/-
  Spans held against each other.
-/
import Derived.Test.YthddlkhfkncgpaaGreatT0p
set_option maxRecDepth 100000
set_option maxHeartbeats 4000000
set_option linter.unusedVariables false
set_option linter.unusedSimpArgs false
namespace Go.Proofs.YthddlkhfkncgpaaGreat
open Go.RowKit

theorem sameSpans_ok {l : List Spn} (hl : l.length ≤ 1000000000000) : FnOk Tryz.prog 33 [vD (lSp l), vD (lSp l)] [] (vB true) [] := by
  refine FnOk.start t33 rfl rfl rfl ?_
  refine Tri.seq (Tri.go [] rfl trivial ?_)
  refine Tri.seq (Tri.go [.b 10 false] rfl ⟨by simp, trivial⟩ ?_)
  refine Tri.seq (Tri.seq (Tri.go [] rfl trivial ?_))
  refine Tri.block ?_
  refine Tri.lp (fun m ρ hl => ∃ i, m = l.length - i ∧ i ≤ l.length ∧ hl = [] ∧ keepE ρ [0, 1, 5] = some [(0, vD (lSp l)), (1, vD (lSp l)), (5, vI .i64 i)]) l.length ⟨0, by omega, by omega, rfl, keep_of rfl (by simp)⟩ ?_
  rintro m ρ hl' ⟨i, rfl, hi, rfl, hk⟩
  refine Tri.keep _ hk ?_
  by_cases h : i < l.length
  · have hg := rwS_get h
    generalize l[i] = s at hg
    obtain ⟨s1, s2, s3⟩ := s
    refine Tri.go [.b 14 true, .at [.int .i64 s1, .int .i64 s2, .int .i64 s3], .at [.int .i64 s1, .int .i64 s2, .int .i64 s3], .b 25 false] rfl ?_ (again (l.length - (i + 1)) (by omega) ⟨i + 1, rfl, by omega, rfl, keep_of rfl (by simp)⟩)
    simp [hg]
    omega
  · refine Tri.go [.b 14 false] rfl ⟨decide_eq_false (by omega), trivial⟩ (outQ ?_)
    exact Tri.go [] rfl trivial (RetQ.of [] [] rfl trivial (.refl _) rfl)
end Go.Proofs.YthddlkhfkncgpaaGreat
