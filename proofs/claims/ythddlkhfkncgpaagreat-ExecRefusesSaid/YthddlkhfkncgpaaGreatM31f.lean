/-
  tell.Fail.
-/
import Derived.Test.YthddlkhfkncgpaaGreatM31
set_option maxRecDepth 100000
set_option linter.unusedVariables false
set_option linter.unusedSimpArgs false
namespace Go.Proofs.YthddlkhfkncgpaaGreat
open Go.RowKit

theorem leOb : C.le (.t .nil) (.t (lO [])) := .t (.nil 2)
theorem fail_ok (fn e : Int) : FnOk Tryz.prog 62 [vI .i64 fn, vI .i64 e] [] (Tell.v { fn := fn, exc := e }) [] := by
  refine FnOk.go t62 [] [] [] rfl rfl rfl rfl rfl rfl rfl (by simp) (by simp) ?_
  refine .e (.agg ?_)
  repeat (first | exact LeCs.nil | refine LeCs.cons (.refl _) ?_ | refine LeCs.cons leF ?_ | refine LeCs.cons leI ?_ | refine LeCs.cons leOb ?_)
end Go.Proofs.YthddlkhfkncgpaaGreat
