/-
  SessReasons, as its row asks for it.
-/
import Derived.Test.YtpnbncdclgmegaaS8
set_option linter.unusedVariables false
set_option maxRecDepth 100000
namespace Go.Proofs.Ytpnbncdclgmegaa
open Go.RowKit

theorem sessReasons_walk (a0 : Int) (a1 : Int) (w : World) (h0 : (Lit.int .i64 a0).wf = true) (h1 : (Lit.int .u16 a1).wf = true) :
    Calls Try.prog 10 #[.int .i64 a0, .int .u16 a1] w fun e w' => e = .returned (.bool true) ∧ Keeps Nope w w' := by
  have h := sessReasons_ok (k := a0) (v := a1) (wf_i64 h0)
  exact h.law' (l := [.int .i64 a0, .int .u16 a1]) (.cons (.int _ _) (.cons (.int _ _) .nil))
end Go.Proofs.Ytpnbncdclgmegaa
