/-
  TellFails, as its row asks for it.
-/
import Derived.Test.YtheaeddojcebjaaM44
import Derived.Test.YtheaeddojcebjaaKD
set_option linter.unusedVariables false
namespace Go.Proofs.Ytheaeddojcebjaa
open Go.RowKit

theorem tellFails_walk (a0 a1 : Int) (a2 : Bool) (w : World) (h0 : (Lit.int .i64 a0).wf = true) (h1 : (Lit.int .i64 a1).wf = true) :
    Calls Try.prog 17 #[.int .i64 a0, .int .i64 a1, .bool a2] w fun e w' => e = .returned (.bool true) ∧ Keeps Nope w w' :=
  (tellFails_ok (wf_i64 h0) (wf_i64 h1) a2).law' (l := [.int .i64 a0, .int .i64 a1, .bool a2]) (.cons (.int _ _) (.cons (.int _ _) (.cons (.bool _) .nil)))
end Go.Proofs.Ytheaeddojcebjaa
