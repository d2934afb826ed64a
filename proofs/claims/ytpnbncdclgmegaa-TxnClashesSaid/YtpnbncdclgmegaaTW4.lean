/-
  TxnClashes, as its row asks for it.
-/
import Derived.Test.YtpnbncdclgmegaaT21
set_option linter.unusedVariables false
set_option maxRecDepth 100000
namespace Go.Proofs.Ytpnbncdclgmegaa
open Go.RowKit

theorem txnClashes_walk (a0 a1 : Int) (b2 b3 : Bool) (w : World) (h0 : (Lit.int .i64 a0).wf = true) (h1 : (Lit.int .i64 a1).wf = true) :
    Calls Try.prog 4 #[.int .i64 a0, .int .i64 a1, .bool b2, .bool b3] w fun e w' => e = .returned (.bool true) ∧ Keeps Nope w w' := by
  have h := txnClashes_ok (wr := b2) (rd := b3) (wf_i64 h0) (wf_i64 h1)
  exact h.law' (l := [.int .i64 a0, .int .i64 a1, .bool b2, .bool b3]) (.cons (.int _ _) (.cons (.int _ _) (.cons (.bool _) (.cons (.bool _) .nil))))
end Go.Proofs.Ytpnbncdclgmegaa
