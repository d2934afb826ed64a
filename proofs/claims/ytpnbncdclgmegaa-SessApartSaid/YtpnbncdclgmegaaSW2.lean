/-
  SessApart, as its row asks for it.
-/
import Derived.Test.YtpnbncdclgmegaaS7
set_option linter.unusedVariables false
set_option maxRecDepth 100000
namespace Go.Proofs.Ytpnbncdclgmegaa
open Go.RowKit

theorem sessApart_walk (a0 : Option Addr) (len0 cap0 : Nat) (z0 : List Int) (a1 : Int) (w : World) (h0 : IsRow .i64 w a0 len0 cap0 z0) (h1 : (Lit.int .i64 a1).wf = true) :
    Calls Try.prog 8 #[.slice a0 len0 cap0, .int .i64 a1] w fun e w' => e = .returned (.bool true) ∧ Keeps Nope w w' := by
  obtain ⟨hr, hl, hm, hw⟩ := h0.rd
  have h := sessApart_ok (ops := z0.take len0) (fun x hx => wf_i64 (hw x hx)) (by rw [hl]; exact hm) (wf_i64 h1)
  exact h.law' (l := [.slice a0 len0 cap0, .int .i64 a1]) (.cons (.e (.c (.t hr))) (.cons (.int _ _) .nil))
end Go.Proofs.Ytpnbncdclgmegaa
