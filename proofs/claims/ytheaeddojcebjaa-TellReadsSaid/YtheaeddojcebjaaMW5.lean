/-
  TellReads, as its row asks for it.
-/
import Derived.Test.YtheaeddojcebjaaM43
import Derived.Test.YtheaeddojcebjaaKD
set_option linter.unusedVariables false
namespace Go.Proofs.Ytheaeddojcebjaa
open Go.RowKit

theorem tellReads_walk (a0 : Option Addr) (len0 cap0 : Nat) (z0 : List Int) (a1 a2 : Int) (a3 : Bool) (w : World) (h0 : IsRow .u8 w a0 len0 cap0 z0) (h1 : (Lit.int .i64 a1).wf = true) (h2 : (Lit.int .i64 a2).wf = true) :
    Calls Try.prog 15 #[.slice a0 len0 cap0, .int .i64 a1, .int .i64 a2, .bool a3] w fun e w' => e = .returned (.bool true) ∧ Keeps Nope w w' := by
  obtain ⟨hr, hl, hm, hw⟩ := h0.rd
  have h := tellReads_ok (b := z0.take len0) (fun x hx => wf_u8 (hw x hx)) (by rw [hl]; exact hm) (wf_i64 h1) (wf_i64 h2) a3
  exact h.law' (l := [.slice a0 len0 cap0, .int .i64 a1, .int .i64 a2, .bool a3]) (.cons (.e (.c (.t hr))) (.cons (.int _ _) (.cons (.int _ _) (.cons (.bool _) .nil))))
end Go.Proofs.Ytheaeddojcebjaa
