/-
  AskNames, AskCuts, as their rows ask for it.
-/
import Derived.Test.YtheaeddojcebjaaM23
set_option linter.unusedVariables false
namespace Go.Proofs.Ytheaeddojcebjaa
open Go.RowKit

theorem askNames_walk (a0 a1 : Int) (w : World) (h0 : (Lit.int .i64 a0).wf = true) (h1 : (Lit.int .i64 a1).wf = true) :
    Calls Try.prog 7 #[.int .i64 a0, .int .i64 a1] w fun e w' => e = .returned (.bool true) ∧ Keeps Nope w w' :=
  (askNames_ok (wf_i64 h0) (wf_i64 h1)).law' (l := [.int .i64 a0, .int .i64 a1]) (.cons (.int _ _) (.cons (.int _ _) .nil))
theorem askCuts_walk (a0 a1 a2 : Int) (w : World) (h0 : (Lit.int .i64 a0).wf = true) (h1 : (Lit.int .i64 a1).wf = true) (h2 : (Lit.int .u8 a2).wf = true) :
    Calls Try.prog 10 #[.int .i64 a0, .int .i64 a1, .int .u8 a2] w fun e w' => e = .returned (.bool true) ∧ Keeps Nope w w' :=
  (askCuts_ok (wf_i64 h0) (wf_i64 h1) (wf_u8 h2)).law' (l := [.int .i64 a0, .int .i64 a1, .int .u8 a2]) (.cons (.int _ _) (.cons (.int _ _) (.cons (.int _ _) .nil)))
end Go.Proofs.Ytheaeddojcebjaa
