/-
  The bytes of an echo are the front of the request's.
-/
import Derived.Test.YtheaeddojcebjaaM46
import Derived.Test.YtheaeddojcebjaaM45
import Derived.Test.YtheaeddojcebjaaM17
set_option maxRecDepth 100000
set_option maxHeartbeats 4000000
set_option linter.unusedVariables false
set_option linter.unusedSimpArgs false
namespace Go.Proofs.Ytheaeddojcebjaa
open Go.RowKit

theorem echo_fit {a : Ask} (hf : a.Fit) : (echoT a).Fit := by
  obtain ⟨h1, h2, h3, h4, h5, h6, h7, h8, h9, h10, h11, h12, h13⟩ := hf
  unfold echoT
  repeat' split
  · exact fitT h1 h2 (by simp [b64]) h4 (by simp) (by simp) (by simp) (by simp) wrd_nil rfl rfl rfl rfl rfl
  · exact fitT h1 h2 h3 (by simp) (by simp) (by simp) (by simp) (by simp) wrd_nil rfl rfl rfl rfl rfl
  · exact fitT h1 h2 (by simp [b64]) (by simp) h5 h6 (by simp) (by simp) wrd_nil rfl rfl rfl rfl rfl
  · exact tFit0
  · exact tFit0
/-- The echo of a request that writes is right, and its bytes are the front of the request's. -/
theorem echo_bytes {a : Ask} (h : a.right = true) (hw : a.fn = 5 ∨ a.fn = 6 ∨ a.fn = 15 ∨ a.fn = 16 ∨ a.fn = 22) :
    (echoT a).right = true ∧ (echoT a).exc = 0 ∧ (echoT a).fn = a.fn ∧ ∃ t, askB a = tellB (echoT a) ++ t := by
  have h' := h
  obtain ⟨fn, at_, n, vl, an, og, bs, ws, ra, rn, cd, ob⟩ := a
  simp only at hw
  rcases hw with rfl | rfl | rfl | rfl | rfl
  all_goals
    simp [Ask.right, Ask.same, Ask.only, Ask.rest, known, countsB, kMost, placeB] at h
    simp [echoT, h', Tell.right, Tell.only, Tell.rest, known, tEq, countsB, placeB, tellB, askB]
    omega
end Go.Proofs.Ytheaeddojcebjaa
