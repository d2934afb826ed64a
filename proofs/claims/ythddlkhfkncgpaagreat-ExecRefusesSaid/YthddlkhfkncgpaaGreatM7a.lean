/-
  Requests: what their fields say.
-/
import Derived.Test.YthddlkhfkncgpaaGreatM7
set_option linter.unusedVariables false
set_option linter.unusedSimpArgs false
namespace Go.Proofs.YthddlkhfkncgpaaGreat
open Go.RowKit

theorem fitA {a : Ask} (h1 : b64 a.fn) (h2 : b64 a.at_) (h3 : b64 a.n) (h4 : 0 ≤ a.val ∧ a.val ≤ 65535) (h5 : 0 ≤ a.and_ ∧ a.and_ ≤ 65535) (h6 : 0 ≤ a.or_ ∧ a.or_ ≤ 65535) (h7 : a.bits.length ≤ 1000000000000) (h8 : a.words.length ≤ 1000000000000) (h9 : Wrd a.words) (h10 : b64 a.ra) (h11 : b64 a.rn) (h12 : b64 a.code) (h13 : b64 a.obj) : a.Fit :=
  ⟨h1, h2, h3, h4, h5, h6, h7, h8, h9, h10, h11, h12, h13⟩
theorem wrd_nil : Wrd [] := fun x hx => (nomatch hx)
theorem right_known {a : Ask} (h : a.right = true) : known a.fn = true := by simp only [Ask.right, Bool.and_eq_true] at h; exact h.1
end Go.Proofs.YthddlkhfkncgpaaGreat
