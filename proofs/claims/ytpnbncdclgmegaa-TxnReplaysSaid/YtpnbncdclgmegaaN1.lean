/-
  No whole number is no number.
-/
import Derived.Test.YtpnbncdclgmegaaT0
set_option maxRecDepth 100000
set_option linter.unusedVariables false
set_option linter.unusedSimpArgs false
namespace Go.Proofs.Ytpnbncdclgmegaa
open Go.RowKit

theorem isNaN_ok {a : Int} : FnOk Try.prog 112 [vI .i64 a] [] (vB false) [] := by
  refine FnOk.tree t112 .nil rfl rfl rfl rfl ?_
  simp [leP, leE, leC]
end Go.Proofs.Ytpnbncdclgmegaa
