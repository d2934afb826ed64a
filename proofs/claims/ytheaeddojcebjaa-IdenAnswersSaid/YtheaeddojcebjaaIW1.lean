/-
  IdenAnswers, as its row asks for it.
-/
import Derived.Test.YtheaeddojcebjaaI6
import Derived.Test.YtheaeddojcebjaaO
set_option linter.unusedVariables false
set_option maxRecDepth 100000
namespace Go.Proofs.Ytheaeddojcebjaa
open Go.RowKit

theorem idenAnswers_walk (a0 : Option Addr) (len0 cap0 : Nat) (z0 : List Int) (a1 a2 : Int) (a3 : Bool) (w : World) (h0 : IsRow .i64 w a0 len0 cap0 z0) (h1 : (Lit.int .i64 a1).wf = true) (h2 : (Lit.int .i64 a2).wf = true) :
    Calls Try.prog 8 #[.slice a0 len0 cap0, .int .i64 a1, .int .i64 a2, .bool a3] w fun e w' => e = .returned (.bool true) ∧ Keeps Nope w w' := by
  obtain ⟨hr, hl, hm, hw⟩ := h0.rd
  have h := idenAnswers_ok (ks := z0.take len0) (fun x hx => wf_i64 (hw x hx)) (by rw [hl]; exact hm) (wf_i64 h1) (wf_i64 h2) a3
  exact h.law' (l := [.slice a0 len0 cap0, .int .i64 a1, .int .i64 a2, .bool a3]) (.cons (.e (.c (.t hr))) (.cons (.int _ _) (.cons (.int _ _) (.cons (.bool _) .nil))))
end Go.Proofs.Ytheaeddojcebjaa
