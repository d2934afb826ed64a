/-
  ExecCells, as its row asks for it.
-/
import Derived.Test.YthddlkhfkncgpaaGreatE15
import Derived.Test.YthddlkhfkncgpaaGreatMas
set_option linter.unusedVariables false
set_option maxRecDepth 100000
namespace Go.Proofs.YthddlkhfkncgpaaGreat
open Go.RowKit

theorem execCells_walk (v0 : Value) (a1 a2 a3 a4 a5 : Int) (w : World) (h0 : Came Tryz.prog w 26 v0) (h1 : (Lit.int .u16 a1).wf = true) (h2 : (Lit.int .i64 a2).wf = true) (h3 : (Lit.int .i64 a3).wf = true) (h4 : (Lit.int .u16 a4).wf = true) (h5 : (Lit.int .u16 a5).wf = true) :
    Calls Tryz.prog 3 #[v0, .int .u16 a1, .int .i64 a2, .int .i64 a3, .int .u16 a4, .int .u16 a5] w fun e w' => e = .returned (.bool true) ∧ Keeps Nope w w' := by
  obtain ⟨a, hv, hf⟩ := ask_came h0
  exact (execCells_ok (a := a) hf (wf_u16 h1) (wf_i64 h2) (wf_i64 h3) (wf_u16 h4) (wf_u16 h5)).law' (l := [v0, .int .u16 a1, .int .i64 a2, .int .i64 a3, .int .u16 a4, .int .u16 a5]) (.cons hv (.cons (.int _ _) (.cons (.int _ _) (.cons (.int _ _) (.cons (.int _ _) (.cons (.int _ _) .nil))))))
end Go.Proofs.YthddlkhfkncgpaaGreat
