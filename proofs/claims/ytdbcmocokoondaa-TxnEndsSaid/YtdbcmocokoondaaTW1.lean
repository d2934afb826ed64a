/-
  TxnEnds, as its row asks for it.
-/
import Derived.Test.YtdbcmocokoondaaT16
set_option linter.unusedVariables false
set_option maxRecDepth 100000
namespace Go.Proofs.Ytdbcmocokoondaa
open Go.RowKit

theorem txnEnds_walk (a0 a1 : Int) (w : World) (h0 : (Lit.int .i64 a0).wf = true) (h1 : (Lit.int .i64 a1).wf = true) :
    Calls Try.prog 4 #[.int .i64 a0, .int .i64 a1] w fun e w' => e = .returned (.bool true) ∧ Keeps Nope w w' := by
  have h := txnEnds_ok (wf_i64 h0) (wf_i64 h1)
  exact h.law' (l := [.int .i64 a0, .int .i64 a1]) (.cons (.int _ _) (.cons (.int _ _) .nil))
end Go.Proofs.Ytdbcmocokoondaa
