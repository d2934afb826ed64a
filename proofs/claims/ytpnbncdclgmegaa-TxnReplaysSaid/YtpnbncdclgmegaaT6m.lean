/-
  Chains of versions: what stands at a key behind one more version.
-/
import Derived.Test.YtpnbncdclgmegaaT6
set_option maxRecDepth 100000
set_option linter.unusedVariables false
set_option linter.unusedSimpArgs false
namespace Go.Proofs.Ytpnbncdclgmegaa
open Go.RowKit

theorem chK_nil (k : Key) : chK [] k = [] := rfl
theorem chK_cons (e : Key × Ch) (L : Chs) (k : Key) : chK (e :: L) k = if e.1 = k then e.2 else chK L k := by
  unfold chK idxK
  rw [List.findIdx_cons]
  by_cases h : e.1 = k
  · simp [h]
  · have : (e.1 == k) = false := by simpa using h
    simp [this, h]
theorem addK_nil (k : Key) (v : Int × Int) : addK [] k v = [(k, [v])] := rfl
theorem addK_cons (e : Key × Ch) (L : Chs) (k : Key) (v : Int × Int) : addK (e :: L) k v = if e.1 = k then (e.1, e.2 ++ [v]) :: L else e :: addK L k v := by
  unfold addK idxK
  rw [List.findIdx_cons]
  by_cases h : e.1 = k
  · simp [h]
  · have : (e.1 == k) = false := by simpa using h
    simp only [this, cond_false, List.length_cons, Nat.add_lt_add_iff_right, h, if_false]
    split
    · simp
    · simp
theorem chK_addK (L : Chs) (k k' : Key) (v : Int × Int) : chK (addK L k v) k' = if k = k' then chK L k' ++ [v] else chK L k' := by
  induction L with
  | nil =>
    rw [addK_nil, chK_cons, chK_nil]
    by_cases h : k = k' <;> simp [h]
  | cons e L ih =>
    rw [addK_cons]
    by_cases h : e.1 = k
    · rw [if_pos h, chK_cons, chK_cons]
      by_cases h2 : k = k'
      · simp [h, h2]
      · simp [h, h2]
    · rw [if_neg h, chK_cons, chK_cons, ih]
      by_cases h2 : e.1 = k'
      · have : ¬ k = k' := fun e2 => h (h2.trans e2.symm)
        simp [h2, this]
      · simp [h2]
end Go.Proofs.Ytpnbncdclgmegaa
