/-
  The document's read is what the cursor gives.
-/
import Derived.Test.YtheaeddojcebjaaM13
set_option maxRecDepth 100000
set_option maxHeartbeats 4000000
set_option linter.unusedVariables false
set_option linter.unusedSimpArgs false
namespace Go.Proofs.Ytheaeddojcebjaa
open Go.RowKit

theorem wAt_dr (b : List Int) (m j : Nat) : wAt (b.drop m) j = wAt b (m + j) := by simp [wAt, List.getD_eq_getElem?_getD, Nat.add_assoc]
theorem wOr_in {b : List Int} {k : Nat} (h : k + 2 ≤ b.length) : wOr b k = wAt b k := if_pos h
theorem ws_eq {b : List Int} {k : Nat} {n : Nat} (h : b.length = k + 2 * n) : wsAt b k n = wsOf (b.drop k) n := by
  unfold wsAt wsOf
  refine List.map_congr_left fun i hi => ?_
  have := List.mem_range.1 hi
  rw [wOr_in (by omega), wAt_dr]
theorem getD_dr (b : List Int) (m j : Nat) : (b.drop m).getD j 0 = b.getD (m + j) 0 := by simp [List.getD_eq_getElem?_getD]
/-- What holds of what the document's read gives. -/
def RdIs (fn : Int) (b : List Int) : Prop := (rdAsk fn b).2 = (askOk fn (b.drop 1) && (askOf fn (b.drop 1)).right) ∧ ((rdAsk fn b).2 = true → (rdAsk fn b).1 = askOf fn (b.drop 1))
theorem RdIs.of {fn : Int} {b : List Int} (h1 : askOk fn (b.drop 1) = true → rdAsk fn b = (askOf fn (b.drop 1), (askOf fn (b.drop 1)).right)) (h2 : askOk fn (b.drop 1) = false → (rdAsk fn b).2 = false) : RdIs fn b := by
  cases h : askOk fn (b.drop 1) with
  | true => rw [RdIs, h1 h, h]; simp
  | false => rw [RdIs, h2 h, h]; simp
theorem rd_is {b : List Int} (hb : Byt b) (h0 : 1 ≤ b.length) (hl : b.length ≤ 253) {fn : Int} (hk : known fn = true) : RdIs fn b := by
  have hf := of_decide_eq_true hk
  have hlen : (b.drop 1).length = b.length - 1 := List.length_drop
  have w1 : wAt (b.drop 1) 0 = wAt b 1 := wAt_dr b 1 0
  have w3 : wAt (b.drop 1) 2 = wAt b 3 := wAt_dr b 1 2
  have w5 : wAt (b.drop 1) 4 = wAt b 5 := wAt_dr b 1 4
  have w7 : wAt (b.drop 1) 6 = wAt b 7 := wAt_dr b 1 6
  have g1 : (b.drop 1).getD 1 0 = b.getD 2 0 := getD_dr b 1 1
  have g2 : (b.drop 1).getD 2 0 = b.getD 3 0 := getD_dr b 1 2
  have d4 : (b.drop 1).drop 4 = b.drop 5 := by simp
  have d5 : (b.drop 1).drop 5 = b.drop 6 := by simp
  have d8 : (b.drop 1).drop 8 = b.drop 9 := by simp
  have d9 : (b.drop 1).drop 9 = b.drop 10 := by simp
  have e5 : (b.drop 5).getD 0 0 = b.getD 5 0 := getD_dr b 5 0
  have e9 : (b.drop 9).getD 0 0 = b.getD 9 0 := getD_dr b 9 0
  have e6 : (b.drop 5).drop 1 = b.drop 6 := by simp
  have e10 : (b.drop 9).drop 1 = b.drop 10 := by simp
  have r3 := wAt_rng hb 3
  have r7 := wAt_rng hb 7
  obtain ⟨xs, hx⟩ : ∃ xs, b.drop 1 = xs := ⟨_, rfl⟩
  rw [hx] at hlen w1 w3 w5 w7 g1 g2 d4 d5 d8 d9
  suffices hh : (askOk fn xs = true → rdAsk fn b = (askOf fn xs, (askOf fn xs).right)) ∧ (askOk fn xs = false → (rdAsk fn b).2 = false) from RdIs.of (by rw [hx]; exact hh.1) (by rw [hx]; exact hh.2)
  clear hx
  rcases hf with rfl | rfl | rfl | rfl | rfl | rfl | rfl | rfl | rfl | rfl | rfl
  case inr.inr.inr.inr.inl =>
    refine ⟨fun h => ?_, fun h => ?_⟩
    · simp [askOk, w3] at h
      have o1 : wOr b 1 = wAt b 1 := wOr_in (by omega)
      have o3 : wOr b 3 = wAt b 3 := wOr_in (by omega)
      rcases h.2 with h2 | h2 <;> simp [rdAsk, askOf, w1, w3, o1, o3, h2] <;> omega
    · simp [askOk, w3] at h
      by_cases h5 : b.length = 5
      · have o3 : wOr b 3 = wAt b 3 := wOr_in (by omega)
        have := h (by omega)
        simp [rdAsk, o3, this]
      · simp [rdAsk, h5]
  case inr.inr.inr.inr.inr.inr.inl =>
    refine ⟨fun h => ?_, fun h => ?_⟩
    · simp only [askOk, coilsOk, d4, e5, e6, w3] at h
      simp [hlen] at h
      have o1 : wOr b 1 = wAt b 1 := wOr_in (by omega)
      have o3 : wOr b 3 = wAt b 3 := wOr_in (by omega)
      have h6 : ¬ b.length < 6 := by omega
      have hf := h.2.2
      have hf' := of_decide_eq_true hf
      have h5 : b.getD 5 0 = nBytes (wAt b 3) := by
        have := h.2.1
        simp at hf' this ⊢
        omega
      simp only [rdAsk, askOf, w1, w3, o1, o3, h6, hf, h5, d5]
      simp
    · by_cases h6 : b.length < 6
      · simp [rdAsk, h6]
      · have o3 : wOr b 3 = wAt b 3 := wOr_in (by omega)
        simp only [askOk, coilsOk, d4, e5, e6, w3] at h
        cases hf : fit (b.drop 6) (wAt b 3) with
        | false => simp [rdAsk, h6, o3, hf]
        | true =>
          have hf' := of_decide_eq_true hf
          simp only [hf] at h
          simp [hlen] at h
          have := h (by omega)
          have h5 : ¬ b.getD 5 0 = nBytes (wAt b 3) := by simp at hf' this ⊢; omega
          simp only [rdAsk, h6, o3, hf, h5]
          simp
  case inr.inr.inr.inr.inr.inr.inr.inl =>
    refine ⟨fun h => ?_, fun h => ?_⟩
    · simp only [askOk, wordsOk, d4, e5, e6, w3] at h
      simp [hlen] at h
      have o1 : wOr b 1 = wAt b 1 := wOr_in (by omega)
      have o3 : wOr b 3 = wAt b 3 := wOr_in (by omega)
      have h6 : ¬ b.length < 6 := by omega
      have hf : listOk b 6 (wAt b 3) = true := decide_eq_true (by omega)
      have h5 : b.getD 5 0 = 2 * wAt b 3 := by have := h.2.1; simp at this ⊢; omega
      have hw : wsAt b 6 (wAt b 3).toNat = wsOf (b.drop 6) (wAt b 3).toNat := ws_eq (by omega)
      simp only [rdAsk, askOf, w1, w3, o1, o3, h6, hf, h5, d5, hw]
      simp
    · by_cases h6 : b.length < 6
      · simp [rdAsk, h6]
      · have o3 : wOr b 3 = wAt b 3 := wOr_in (by omega)
        simp only [askOk, wordsOk, d4, e5, e6, w3] at h
        cases hf : listOk b 6 (wAt b 3) with
        | false => simp [rdAsk, h6, o3, hf]
        | true =>
          have hf' := of_decide_eq_true hf
          simp [hlen] at h
          have h5 : ¬ b.getD 5 0 = 2 * wAt b 3 := by
            intro h5
            have := h (by omega)
            simp at h5 this
            omega
          simp only [rdAsk, h6, o3, hf, h5]
          simp
  case inr.inr.inr.inr.inr.inr.inr.inr.inr.inl =>
    refine ⟨fun h => ?_, fun h => ?_⟩
    · simp only [askOk, wordsOk, d8, e9, e10, w7] at h
      simp [hlen] at h
      have o1 : wOr b 1 = wAt b 1 := wOr_in (by omega)
      have o3 : wOr b 3 = wAt b 3 := wOr_in (by omega)
      have o5 : wOr b 5 = wAt b 5 := wOr_in (by omega)
      have o7 : wOr b 7 = wAt b 7 := wOr_in (by omega)
      have h6 : ¬ b.length < 10 := by omega
      have hf : listOk b 10 (wAt b 7) = true := decide_eq_true (by omega)
      have h5 : b.getD 9 0 = 2 * wAt b 7 := by have := h.2.1; simp at this ⊢; omega
      have hw : wsAt b 10 (wAt b 7).toNat = wsOf (b.drop 10) (wAt b 7).toNat := ws_eq (by omega)
      simp only [rdAsk, askOf, w1, w3, w5, w7, o1, o3, o5, o7, h6, hf, h5, d9, hw]
      simp
    · by_cases h6 : b.length < 10
      · simp [rdAsk, h6]
      · have o7 : wOr b 7 = wAt b 7 := wOr_in (by omega)
        simp only [askOk, wordsOk, d8, e9, e10, w7] at h
        cases hf : listOk b 10 (wAt b 7) with
        | false => simp [rdAsk, h6, o7, hf]
        | true =>
          have hf' := of_decide_eq_true hf
          simp [hlen] at h
          have h5 : ¬ b.getD 9 0 = 2 * wAt b 7 := by
            intro h5
            have := h (by omega)
            simp at h5 this
            omega
          simp only [rdAsk, h6, o7, hf, h5]
          simp
  all_goals
    refine ⟨fun h => ?_, fun h => ?_⟩
    · simp [askOk] at h
      first
        | (have o1 : wOr b 1 = wAt b 1 := wOr_in (by omega)
           have o3 : wOr b 3 = wAt b 3 := wOr_in (by omega)
           have h5 : b.length = 5 := by omega
           simp [rdAsk, askOf, w1, w3, o1, o3, h5]; done)
        | (have o1 : wOr b 1 = wAt b 1 := wOr_in (by omega)
           have o3 : wOr b 3 = wAt b 3 := wOr_in (by omega)
           have o5 : wOr b 5 = wAt b 5 := wOr_in (by omega)
           have h5 : b.length = 7 := by omega
           simp [rdAsk, askOf, w1, w3, w5, o1, o3, o5, h5]; done)
        | (have h4 : b.length = 4 := by omega
           simp only [rdAsk, askOf, g1, g2, h4]; simp; done)
    · simp [askOk] at h
      first
        | (have h5 : ¬ b.length = 5 := by omega
           simp [rdAsk, h5]; done)
        | (have h5 : ¬ b.length = 7 := by omega
           simp [rdAsk, h5]; done)
        | (have h5 : ¬ b.length = 4 := by omega
           simp [rdAsk, h5]; done)
end Go.Proofs.Ytheaeddojcebjaa
