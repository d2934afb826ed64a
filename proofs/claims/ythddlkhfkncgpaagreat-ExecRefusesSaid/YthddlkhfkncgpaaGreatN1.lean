/-
  No whole number is no number.
-/
import Derived.Test.YthddlkhfkncgpaaGreatT0
set_option maxRecDepth 100000
set_option linter.unusedVariables false
set_option linter.unusedSimpArgs false
namespace Go.Proofs.YthddlkhfkncgpaaGreat
open Go.RowKit

theorem isNaN_ok {a : Int} : FnOk Tryz.prog 274 [vI .i64 a] [] (vB false) [] := by
  refine FnOk.tree t274 .nil rfl rfl rfl rfl ?_
  simp [leP, leE, leC]
end Go.Proofs.YthddlkhfkncgpaaGreat
