/-
  TellFits, as its row asks for it.
-/
import Derived.Test.YtheaeddojcebjaaC4
import Derived.Test.YtheaeddojcebjaaO
set_option linter.unusedVariables false
set_option maxRecDepth 100000
namespace Go.Proofs.Ytheaeddojcebjaa
open Go.RowKit

theorem tellFits_walk (a0 a1 : Int) (a2 : Option Addr) (len2 cap2 : Nat) (z2 : List Int) (w : World) (h0 : (Lit.int .i64 a0).wf = true) (h1 : (Lit.int .i64 a1).wf = true) (h2 : IsRow .i64 w a2 len2 cap2 z2) :
    Calls Try.prog 18 #[.int .i64 a0, .int .i64 a1, .slice a2 len2 cap2] w fun e w' => e = .returned (.bool true) ∧ Keeps Nope w w' := by
  obtain ⟨hr, hl, hm, hw⟩ := h2.rd
  have h := tellFits_ok (wf_i64 h0) (wf_i64 h1) (ks := z2.take len2) (fun x hx => wf_i64 (hw x hx)) (by rw [hl]; exact hm)
  exact h.law' (l := [.int .i64 a0, .int .i64 a1, .slice a2 len2 cap2]) (.cons (.int _ _) (.cons (.int _ _) (.cons (.e (.c (.t hr))) .nil)))
end Go.Proofs.Ytheaeddojcebjaa
