/-
  ExecOrders, as its row asks for it.
-/
import Derived.Test.YthddlkhfkncgpaaGreatE11
set_option linter.unusedVariables false
set_option maxRecDepth 100000
namespace Go.Proofs.YthddlkhfkncgpaaGreat
open Go.RowKit

theorem execOrders_walk (a0 : Option Addr) (len0 cap0 : Nat) (z0 : List Int) (w : World) (h0 : IsRow .i64 w a0 len0 cap0 z0) :
    Calls Tryz.prog 4 #[.slice a0 len0 cap0] w fun e w' => e = .returned (.bool true) ∧ Keeps Nope w w' := by
  obtain ⟨hr, hl, hm, hw⟩ := h0.rd
  have h := execOrders_ok (ops := z0.take len0) (fun x hx => wf_i64 (hw x hx)) (by rw [hl]; exact hm)
  exact h.law' (l := [.slice a0 len0 cap0]) (.cons (.e (.c (.t hr))) .nil)
end Go.Proofs.YthddlkhfkncgpaaGreat
