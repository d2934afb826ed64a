/-
  Spans by numbers.
-/
import Derived.Test.YtpnbncdclgmegaaT3
set_option maxRecDepth 100000
set_option maxHeartbeats 1000000
set_option linter.unusedVariables false
set_option linter.unusedSimpArgs false
namespace Go.Proofs.Ytpnbncdclgmegaa
open Go.RowKit

def spanG (k : Int) : Spn :=
  let f := if dig k 1920 16 = 0 then 65496 + dig k 4 40 else dig k 4 40
  let n := if dig k 1920 16 = 1 then 1 + 100 * dig k 160 12 else 1 + dig k 160 12
  (k % 4, f, if 65536 < f + n then 65536 else f + n)
theorem span_ok {k : Int} (hk : b64 k) : FnOk Try.prog 24 [vI .i64 k] [] (vS3 (spanG k)) [] := by
  have h1 := within_ok (k := k) (n := 4) hk (by omega)
  have h2 := digit_ok (k := k) (d := 4) (n := 40) hk (by omega) (by omega)
  have h3 := digit_ok (k := k) (d := 160) (n := 12) hk (by omega) (by omega)
  have h4 := digit_ok (k := k) (d := 1920) (n := 16) hk (by omega) (by omega)
  have r2 := digR k 4 (n := 40) (by omega)
  have r3 := digR k 160 (n := 12) (by omega)
  unfold spanG
  generalize dig k 4 40 = f at *
  generalize dig k 160 12 = n at *
  generalize dig k 1920 16 = w at *
  by_cases hw : w = 0
  · subst hw
    refine FnOk.tree t24 (.f [] h1 (.f [] h2 (.f [] h3 (.f [] h4 (.a (.b 15 true) .nil))))) rfl rfl rfl rfl ?_
    simp [leVs, leP, leE, leL, leC]
    omega
  · by_cases hw1 : w = 1
    · subst hw1
      refine FnOk.tree t24 (.f [] h1 (.f [] h2 (.f [] h3 (.f [] h4 (.a (.b 15 false) (.a (.b 21 true) (.f [] h3 .nil))))))) rfl rfl rfl rfl ?_
      simp [leVs, leP, leE, leL, leC]
      omega
    · refine FnOk.tree t24 (.f [] h1 (.f [] h2 (.f [] h3 (.f [] h4 (.a (.b 15 false) (.a (.b 21 false) .nil)))))) rfl rfl rfl rfl ?_
      simp [leVs, leP, leE, leL, leC, hw, hw1]
      omega
theorem spanG_rng (k : Int) : 0 ≤ (spanG k).1 ∧ (spanG k).1 < 4 ∧ 0 ≤ (spanG k).2.1 ∧ (spanG k).2.1 < (spanG k).2.2 ∧ (spanG k).2.2 ≤ 65536 := by
  have r2 := digR k 4 (n := 40) (by omega)
  have r3 := digR k 160 (n := 12) (by omega)
  unfold spanG
  simp only
  split <;> split <;> split <;> omega
end Go.Proofs.Ytpnbncdclgmegaa
