/-
  TxnAlone, as its row asks for it.
-/
import Derived.Test.YtdbcmocokoondaaT19
set_option linter.unusedVariables false
set_option maxRecDepth 100000
namespace Go.Proofs.Ytdbcmocokoondaa
open Go.RowKit

theorem txnAlone_walk (a0 : Option Addr) (len0 cap0 : Nat) (z0 : List Int) (b1 : Bool) (w : World) (h0 : IsRow .i64 w a0 len0 cap0 z0) :
    Calls Try.prog 3 #[.slice a0 len0 cap0, .bool b1] w fun e w' => e = .returned (.bool true) ∧ Keeps Nope w w' := by
  obtain ⟨hr, hl, hm, hw⟩ := h0.rd
  have h := txnAlone_ok (ks := z0.take len0) (fun x hx => wf_i64 (hw x hx)) (by rw [hl]; exact hm) (cm := b1)
  exact h.law' (l := [.slice a0 len0 cap0, .bool b1]) (.cons (.e (.c (.t hr))) (.cons (.bool _) .nil))
end Go.Proofs.Ytdbcmocokoondaa
