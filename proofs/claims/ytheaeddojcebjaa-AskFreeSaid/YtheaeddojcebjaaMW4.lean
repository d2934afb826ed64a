/-
  AskBack, AskFree, as their rows ask for it.
-/
import Derived.Test.YtheaeddojcebjaaM29
import Derived.Test.YtheaeddojcebjaaM30
import Derived.Test.YtheaeddojcebjaaO
set_option linter.unusedVariables false
set_option maxRecDepth 100000
namespace Go.Proofs.Ytheaeddojcebjaa
open Go.RowKit

theorem askBack_walk (a0 a1 a2 a3 a4 : Int) (w : World) (h0 : (Lit.int .i64 a0).wf = true) (h1 : (Lit.int .i64 a1).wf = true) (h2 : (Lit.int .i64 a2).wf = true) (h3 : (Lit.int .u8 a3).wf = true) (h4 : (Lit.int .i64 a4).wf = true) :
    Calls Try.prog 9 #[.int .i64 a0, .int .i64 a1, .int .i64 a2, .int .u8 a3, .int .i64 a4] w fun e w' => e = .returned (.bool true) ∧ Keeps Nope w w' :=
  (askBack_ok (wf_i64 h0) (wf_i64 h1) (wf_i64 h2) (wf_u8 h3) (wf_i64 h4)).law' (l := [.int .i64 a0, .int .i64 a1, .int .i64 a2, .int .u8 a3, .int .i64 a4]) (.cons (.int _ _) (.cons (.int _ _) (.cons (.int _ _) (.cons (.int _ _) (.cons (.int _ _) .nil)))))
theorem askFree_walk (v0 : Value) (a1 a2 : Int) (w : World) (h0 : Came Try.prog w 28 v0) (h1 : (Lit.int .i64 a1).wf = true) (h2 : (Lit.int .u8 a2).wf = true) :
    Calls Try.prog 11 #[v0, .int .i64 a1, .int .u8 a2] w fun e w' => e = .returned (.bool true) ∧ Keeps Nope w w' := by
  obtain ⟨l, hv, hl⟩ := h0.bools Try.underlying28 Try.underlying4 (by kernel_rfl)
  exact (askFree_ok (l := l) (wf_i64 h1) (wf_u8 h2) (by have : maxLen = 9223372036854775807 := rfl; omega)).law' (l := [v0, .int .i64 a1, .int .u8 a2]) (.cons hv (.cons (.int _ _) (.cons (.int _ _) .nil)))
end Go.Proofs.Ytheaeddojcebjaa
