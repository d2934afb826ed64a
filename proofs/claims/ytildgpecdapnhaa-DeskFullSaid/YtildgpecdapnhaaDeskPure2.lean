/-
  Plain facts on rows of places: how many are not free, and what opening, ending and closing make of that.
-/
import Derived.Test.YtildgpecdapnhaaDeskPure
set_option linter.unusedVariables false
set_option linter.unusedSimpArgs false
namespace Go.Proofs.Ytildgpecdapnhaa
open Go.RowKit

theorem many_set : ∀ (st : List Int) (c : Nat) (x : Int), c < st.length → many (st.set c x) + (if st.getD c 0 ≠ 0 then 1 else 0) = many st + (if x ≠ 0 then 1 else 0)
  | [], c, x, h => by simp at h
  | y :: st, 0, x, _ => by
    have e : ∀ z : Int, many (z :: st) = many st + if z ≠ 0 then 1 else 0 := fun z => by by_cases h : z = 0 <;> simp [many, h]
    simp only [List.set_cons_zero, e]
    show _ + (if y ≠ 0 then 1 else 0) = _
    omega
  | y :: st, c + 1, x, h => by
    have e : ∀ l : List Int, many (y :: l) = many l + if y ≠ 0 then 1 else 0 := fun l => by by_cases h : y = 0 <;> simp [many, h]
    have ih := many_set st c x (by simpa using h)
    simp only [List.set_cons_succ, e]
    show _ + (if st.getD c 0 ≠ 0 then 1 else 0) = _
    omega
theorem lowest_some {st : List Int} {m : Int} : ∀ (j i : Nat) {c : Nat}, lowest st m i j = some c → (c : Int) < m ∧ st.getD c 0 = 0
  | 0, _, _, h => by simp [lowest] at h
  | j + 1, i, c, h => by
    unfold lowest at h
    split at h
    · split at h
      · rename_i h1 h2
        have : i = c := by simpa using h
        subst this
        exact ⟨h1, h2⟩
      · exact lowest_some j _ h
    · simp at h
theorem lowest_none {st : List Int} {m : Int} : ∀ (j i : Nat), m ≤ i + j → lowest st m i j = none → ∀ k : Nat, i ≤ k → (k : Int) < m → st.getD k 0 ≠ 0
  | 0, i, h, _, k, h1, h2 => by omega
  | j + 1, i, h, hn, k, h1, h2 => by
    unfold lowest at hn
    rw [if_pos (by omega)] at hn
    split at hn
    · simp at hn
    · rename_i hz
      by_cases e : k = i
      · subst e; exact hz
      · exact lowest_none j (i + 1) (by omega) hn k (by omega) h2
theorem many_full : ∀ (st : List Int), (∀ k, k < st.length → st.getD k 0 ≠ 0) → many st = st.length
  | [], _ => rfl
  | y :: st, h => by
    have h0 := h 0 (by simp)
    have ih := many_full st (fun k hk => by have := h (k + 1) (by simpa using hk); simpa using this)
    have : many (y :: st) = many st + 1 := by
      have : y ≠ 0 := by simpa using h0
      simp [many, this]
    rw [this, ih]; simp
theorem desk_many_le {m : Int} {st : List Int} (h : DeskOk m st) : (many st : Int) ≤ m := by
  rw [← h.many]
  have := many_le st m.toNat
  have := h.lo
  omega
/-- Opening: done where a place is free, and then one more is not free. -/
theorem desk_opens {m : Int} {st : List Int} (h : DeskOk m st) : (deskOpen m st).2.1 = decide ((many st : Int) < m) ∧ many (deskOpen m st).2.2 = many st + (if (many st : Int) < m then 1 else 0) := by
  unfold deskOpen
  cases e : lowest st m 0 33 with
  | none =>
    have hall := lowest_none 33 0 (by have := h.hi; omega) e
    have hf : many (st.take m.toNat) = m.toNat := by
      have hl : (st.take m.toNat).length = m.toNat := by rw [List.length_take, h.len]; have := h.hi; omega
      rw [many_full _ (fun k hk => by
        rw [hl] at hk
        have := hall k (by omega) (by omega)
        rwa [List.getD_eq_getElem?_getD, List.getElem?_take_of_lt hk, ← List.getD_eq_getElem?_getD]), hl]
    rw [h.many] at hf
    have hlo := h.lo
    have hn : ¬ (many st : Int) < m := by omega
    simp [openTo, hn]
  | some c =>
    obtain ⟨h1, h2⟩ := lowest_some _ _ e
    have hs := many_set st c 1 (by rw [h.len]; have := h.hi; omega)
    rw [if_neg (fun x => x h2), if_pos (by omega)] at hs
    have hle := desk_many_le (h.set h1 (x := 1) (.inr (.inl rfl)))
    have hp : (many st : Int) < m := by omega
    simp [openTo, hp]; omega
/-- Turning a place otherwise. -/
theorem desk_turns {m : Int} {st : List Int} (h : DeskOk m st) {c to : Int} {fs : List Int} (h0 : 0 ∉ fs) :
    many (deskTurn m st c to fs).2 = many st - (if deskState m st c ∈ fs ∧ to = 0 then 1 else 0) ∧ (deskState m st c ∈ fs → 1 ≤ many st) := by
  unfold deskTurn
  by_cases hm : deskState m st c ∈ fs
  · have hz : deskState m st c ≠ 0 := fun e => h0 (by rw [← e]; exact hm)
    have hr := deskState_in hz
    have hi := h.hi
    have e : deskState m st c = st.getD c.toNat 0 := by unfold deskState; rw [if_pos hr]
    have hs := many_set st c.toNat to (by rw [h.len]; omega)
    rw [if_pos (by rw [← e]; exact hz)] at hs
    rw [if_pos hm]
    by_cases ht : to = 0
    · rw [if_neg (by simp [ht])] at hs
      rw [if_pos ⟨hm, ht⟩]
      exact ⟨by show many (st.set c.toNat to) = _; omega, fun _ => by omega⟩
    · rw [if_pos (by simp [ht])] at hs
      rw [if_neg (fun x => ht x.2)]
      refine ⟨by show many (st.set c.toNat to) = _; omega, fun _ => ?_⟩
      have : many st ≠ 0 := by
        intro e0
        have hm' : st.getD c.toNat 0 ∈ st.filter (fun x => decide (x ≠ 0)) := by
          rw [List.mem_filter]
          refine ⟨?_, by rw [← e]; simpa using hz⟩
          rw [List.getD_eq_getElem?_getD, List.getElem?_eq_getElem (by rw [h.len]; omega)]
          exact List.getElem_mem _
        unfold many at e0
        rw [List.length_eq_zero_iff] at e0
        rw [e0] at hm'
        simp at hm'
      omega
  · rw [if_neg hm, if_neg (fun x => hm x.1)]
    exact ⟨by simp, fun h => absurd h hm⟩
end Go.Proofs.Ytildgpecdapnhaa
