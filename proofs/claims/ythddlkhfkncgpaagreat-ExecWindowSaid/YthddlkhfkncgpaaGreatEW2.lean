/-
  ExecWindow, as its row asks for it.
-/
import Derived.Test.YthddlkhfkncgpaaGreatE13
set_option linter.unusedVariables false
set_option maxRecDepth 100000
namespace Go.Proofs.YthddlkhfkncgpaaGreat
open Go.RowKit

theorem execWindow_walk (a0 : Option Addr) (len0 cap0 : Nat) (z0 : List Int) (a1 : Option Addr) (len1 cap1 : Nat) (z1 : List Int) (a2 : Option Addr) (len2 cap2 : Nat) (z2 : List Int) (w : World) (h0 : IsRow .i64 w a0 len0 cap0 z0) (h1 : IsRow .i64 w a1 len1 cap1 z1) (h2 : IsRow .i64 w a2 len2 cap2 z2) :
    Calls Tryz.prog 7 #[.slice a0 len0 cap0, .slice a1 len1 cap1, .slice a2 len2 cap2] w fun e w' => e = .returned (.bool true) ∧ Keeps Nope w w' := by
  obtain ⟨r0, l0, m0, w0⟩ := h0.rd
  obtain ⟨r1, l1, m1, w1⟩ := h1.rd
  obtain ⟨r2, l2, m2, w2⟩ := h2.rd
  have h := execWindow_ok (ks := z0.take len0) (la := z1.take len1) (lb := z2.take len2) (fun x hx => wf_i64 (w0 x hx)) (fun x hx => wf_i64 (w1 x hx)) (fun x hx => wf_i64 (w2 x hx)) (by rw [l0]; exact m0) (by rw [l1]; exact m1) (by rw [l2]; exact m2)
  exact h.law' (l := [.slice a0 len0 cap0, .slice a1 len1 cap1, .slice a2 len2 cap2]) (.cons (.e (.c (.t r0))) (.cons (.e (.c (.t r1))) (.cons (.e (.c (.t r2))) .nil)))
end Go.Proofs.YthddlkhfkncgpaaGreat
