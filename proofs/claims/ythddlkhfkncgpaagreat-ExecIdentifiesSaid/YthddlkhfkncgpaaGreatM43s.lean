/-
  A reply held against itself.
-/
import Derived.Test.YthddlkhfkncgpaaGreatM31
import Derived.Test.YthddlkhfkncgpaaGreatM11b
set_option maxRecDepth 100000
set_option maxHeartbeats 4000000
set_option linter.unusedVariables false
set_option linter.unusedSimpArgs false
namespace Go.Proofs.YthddlkhfkncgpaaGreat
open Go.RowKit

theorem sameTell_ok {a : Tell} (hf : a.Fit) : FnOk Tryz.prog 22 [a.v, a.v] [] (vB true) [] := by
  have hb := sameBits_ok (l := a.bits) hf.bits
  have hw := sameWords_ok (l := a.words) hf.words
  have hol := hf.objs
  refine FnOk.start t22 rfl rfl rfl ?_
  refine Tri.seq (Tri.go [] rfl (by simp) ?_)
  refine Tri.seq (Tri.tree (.a (.b 12 false) .nil) rfl ⟨by simp, ?_⟩)
  refine Tri.seq (Tri.seq (Tri.go [] rfl trivial ?_))
  refine Tri.block ?_
  refine Tri.lp (fun m ρ hl => ∃ i, m = a.objs.length - i ∧ i ≤ a.objs.length ∧ hl = [.box a.cs, .box a.cs] ∧ keepE ρ [2, 3, 5] = some [(2, vC (.ptr 0 0)), (3, vC (.ptr 1 0)), (5, vI .i64 i)]) a.objs.length ⟨0, by omega, by omega, rfl, keep_of rfl rfl⟩ ?_
  rintro m ρ hl' ⟨i, rfl, hi, rfl, hkk⟩
  refine Tri.keep _ hkk ?_
  by_cases h : i < a.objs.length
  · have hg := oRows_get h
    generalize a.objs[i] = o at *
    obtain ⟨o1, o2⟩ := o
    refine Tri.seq (Tri.tree (.a (.b 17 true) .nil) rfl ⟨by simp; omega, ?_⟩)
    refine Tri.seq (Tri.block (Tri.tree (.a (.at [.int .i64 o1, .str o2]) (.a (.at [.int .i64 o1, .str o2]) (.a (.b 30 false) .nil))) rfl ?_))
    refine ⟨⟨by simp; omega, rfl, hg⟩, by simp, ⟨by simp; omega, rfl, hg⟩, by simp, by simp, by simp, ?_⟩
    refine Tri.let [0, 1] [] [2, 3, 5] rfl trivial ?_
    refine Tri.go [] rfl ⟨by omega, trivial⟩ (again (a.objs.length - (i + 1)) (by omega) ⟨i + 1, rfl, by omega, rfl, keep_of rfl (by simp)⟩)
  · refine Tri.seq (Tri.tree (.a (.b 17 false) .nil) rfl ⟨by simp; omega, ?_⟩)
    refine Tri.treeR (.a (.b 36 true) (.a (.b 43 true) (.f [] hb (.f [] hw (.a (.b 57 true) (.a (.b 64 true) (.a (.b 71 true) (.a (.b 78 true) (.a (.b 85 true) (.a (.b 92 true) (.a (.b 99 true) (.a (.b 106 true) (.a (.b 113 true) .nil))))))))))))) rfl ?_
    simp [leVs, leP, leE, leC]
end Go.Proofs.YthddlkhfkncgpaaGreat
