/-
  TellBack, as its row asks for it.
-/
import Derived.Test.YtheaeddojcebjaaM51
import Derived.Test.YtheaeddojcebjaaO
set_option linter.unusedVariables false
set_option maxRecDepth 100000
namespace Go.Proofs.Ytheaeddojcebjaa
open Go.RowKit

theorem tellBack_walk (a0 a1 : Int) (a2 : Option Addr) (len2 cap2 : Nat) (z2 : List Int) (v3 : Value) (a4 a5 a6 : Int) (w : World) (h0 : (Lit.int .i64 a0).wf = true) (h1 : (Lit.int .i64 a1).wf = true) (h2 : IsRow .u16 w a2 len2 cap2 z2) (h3 : Came Try.prog w 28 v3) (h4 : (Lit.int .i64 a4).wf = true) (h5 : (Lit.int .u8 a5).wf = true) (h6 : (Lit.int .i64 a6).wf = true) :
    Calls Try.prog 16 #[.int .i64 a0, .int .i64 a1, .slice a2 len2 cap2, v3, .int .i64 a4, .int .u8 a5, .int .i64 a6] w fun e w' => e = .returned (.bool true) ∧ Keeps Nope w w' := by
  obtain ⟨l, hv, hl⟩ := h3.bools Try.underlying28 Try.underlying4 (by kernel_rfl)
  obtain ⟨hr, hl2, hm2, hw⟩ := h2.rd
  have h := tellBack_ok (wf_i64 h0) (wf_i64 h1) (ws := z2.take len2) (fun x hx => wf_u16 (hw x hx)) (by rw [hl2]; exact hm2) (l := l) (by have : maxLen = 9223372036854775807 := rfl; omega) (wf_i64 h4) (wf_u8 h5) (wf_i64 h6)
  exact h.law' (l := [.int .i64 a0, .int .i64 a1, .slice a2 len2 cap2, v3, .int .i64 a4, .int .u8 a5, .int .i64 a6]) (.cons (.int _ _) (.cons (.int _ _) (.cons (.e (.c (.t hr))) (.cons hv (.cons (.int _ _) (.cons (.int _ _) (.cons (.int _ _) .nil)))))))
end Go.Proofs.Ytheaeddojcebjaa
