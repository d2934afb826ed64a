/-
  TxnLimits, as its row asks for it.
-/
import Derived.Test.YtpnbncdclgmegaaT20
set_option linter.unusedVariables false
set_option maxRecDepth 100000
namespace Go.Proofs.Ytpnbncdclgmegaa
open Go.RowKit

theorem txnLimits_walk (a0 a1 a2 : Int) (w : World) (h0 : (Lit.int .i64 a0).wf = true) (h1 : (Lit.int .i64 a1).wf = true) (h2 : (Lit.int .i64 a2).wf = true) :
    Calls Try.prog 5 #[.int .i64 a0, .int .i64 a1, .int .i64 a2] w fun e w' => e = .returned (.bool true) ∧ Keeps Nope w w' := by
  have h := txnLimits_ok (wf_i64 h0) (wf_i64 h1) (wf_i64 h2)
  exact h.law' (l := [.int .i64 a0, .int .i64 a1, .int .i64 a2]) (.cons (.int _ _) (.cons (.int _ _) (.cons (.int _ _) .nil)))
end Go.Proofs.Ytpnbncdclgmegaa
