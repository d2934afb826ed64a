/-
  ExecRefuses, as its row asks for it.
-/
import Derived.Test.YthddlkhfkncgpaaGreatE17
import Derived.Test.YthddlkhfkncgpaaGreatMas
set_option linter.unusedVariables false
set_option maxRecDepth 100000
namespace Go.Proofs.YthddlkhfkncgpaaGreat
open Go.RowKit

theorem execRefuses_walk (a0 : Option Addr) (len0 cap0 : Nat) (z0 : List Int) (a1 : Option Addr) (len1 cap1 : Nat) (z1 : List Int) (a2 a3 : Int) (v4 : Value) (w : World) (h0 : IsRow .i64 w a0 len0 cap0 z0) (h1 : IsRow .i64 w a1 len1 cap1 z1) (h2 : (Lit.int .i64 a2).wf = true) (h3 : (Lit.int .i64 a3).wf = true) (h4 : Came Tryz.prog w 26 v4) :
    Calls Tryz.prog 5 #[.slice a0 len0 cap0, .slice a1 len1 cap1, .int .i64 a2, .int .i64 a3, v4] w fun e w' => e = .returned (.bool true) ∧ Keeps Nope w w' := by
  obtain ⟨r0, l0, m0, w0⟩ := h0.rd
  obtain ⟨r1, l1, m1, w1⟩ := h1.rd
  obtain ⟨a, hv, hf⟩ := ask_came h4
  have h := execRefuses_ok (ks := z0.take len0) (la := z1.take len1) (a := a) hf (fun x hx => wf_i64 (w0 x hx)) (fun x hx => wf_i64 (w1 x hx)) (by rw [l0]; exact m0) (by rw [l1]; exact m1) (wf_i64 h2) (wf_i64 h3)
  exact h.law' (l := [.slice a0 len0 cap0, .slice a1 len1 cap1, .int .i64 a2, .int .i64 a3, v4]) (.cons (.e (.c (.t r0))) (.cons (.e (.c (.t r1))) (.cons (.int _ _) (.cons (.int _ _) (.cons hv .nil)))))
end Go.Proofs.YthddlkhfkncgpaaGreat
