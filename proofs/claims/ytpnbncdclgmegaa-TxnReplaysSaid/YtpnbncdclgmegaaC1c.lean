/-
  What cells by numbers are.
-/
import Derived.Test.YtpnbncdclgmegaaT1
set_option maxRecDepth 100000
set_option maxHeartbeats 1000000
set_option linter.unusedVariables false
set_option linter.unusedSimpArgs false
namespace Go.Proofs.Ytpnbncdclgmegaa
open Go.RowKit

/-- What cells by numbers are. -/
structure CelOk (c : Cel) : Prop where
  t : 0 ≤ c.1 ∧ c.1 < 4
  a : (0 ≤ c.2.1 ∧ c.2.1 ≤ 15) ∨ (65520 ≤ c.2.1 ∧ c.2.1 ≤ 65535)
  v : 0 ≤ c.2.2 ∧ c.2.2 ≤ 65535
  r : cellR c = true
theorem cellG_ok (k : Int) : CelOk (cellG k) := by
  have h1 := digR k 4 (n := 16) (by omega)
  have h2 := digR k 1024 (n := 65536) (by omega)
  have ha : (0 ≤ (keyG k).2 ∧ (keyG k).2 ≤ 15) ∨ (65520 ≤ (keyG k).2 ∧ (keyG k).2 ≤ 65535) := by
    unfold keyG
    by_cases h : dig k 64 16 = 0
    · rw [if_pos h]; simp only; omega
    · rw [if_neg h]; simp only; omega
  have ht : 0 ≤ (keyG k).1 ∧ (keyG k).1 < 4 := by unfold keyG; simp only; omega
  unfold cellG
  generalize keyG k = K at *
  generalize dig k 1024 65536 = d at *
  refine ⟨ht, ha, ?_, ?_⟩
  · simp only; split <;> omega
  · simp only [cellR, keyR]
    by_cases h : K.1 < 2
    · rw [if_pos h]
      have : d % 2 ≤ 1 := by omega
      simp [this]
      omega
    · rw [if_neg h]
      have h0 : ¬ K.1 = 0 := by omega
      have h1 : ¬ K.1 = 1 := by omega
      simp [h0, h1]
      omega
end Go.Proofs.Ytpnbncdclgmegaa
