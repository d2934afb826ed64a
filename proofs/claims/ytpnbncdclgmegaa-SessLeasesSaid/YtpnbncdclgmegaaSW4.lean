/-
  SessLeases, as its row asks for it.
-/
import Derived.Test.YtpnbncdclgmegaaS9
set_option linter.unusedVariables false
set_option maxRecDepth 100000
namespace Go.Proofs.Ytpnbncdclgmegaa
open Go.RowKit

theorem sessLeases_walk (a0 : Int) (a1 : Option Addr) (len1 cap1 : Nat) (z1 : List Int) (b2 : Bool) (w : World) (h0 : (Lit.int .i64 a0).wf = true) (h1 : IsRow .i64 w a1 len1 cap1 z1) :
    Calls Try.prog 9 #[.int .i64 a0, .slice a1 len1 cap1, .bool b2] w fun e w' => e = .returned (.bool true) ∧ Keeps Nope w w' := by
  obtain ⟨hr, hl, hm, hw⟩ := h1.rd
  have h := sessLeases_ok (k := a0) (gs := z1.take len1) (wr := b2) (wf_i64 h0) (fun x hx => wf_i64 (hw x hx)) (by rw [hl]; exact hm)
  exact h.law' (l := [.int .i64 a0, .slice a1 len1 cap1, .bool b2]) (.cons (.int _ _) (.cons (.e (.c (.t hr))) (.cons (.bool _) .nil)))
end Go.Proofs.Ytpnbncdclgmegaa
