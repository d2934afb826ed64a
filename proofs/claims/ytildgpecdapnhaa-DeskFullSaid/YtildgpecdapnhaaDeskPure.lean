/-
  Plain facts on a row of places that stands as it may.
-/
import Derived.Test.YtildgpecdapnhaaDesk2
set_option linter.unusedVariables false
set_option linter.unusedSimpArgs false
namespace Go.Proofs.Ytildgpecdapnhaa
open Go.RowKit

/-- What holds of a row of places of m from its beginning on. -/
structure DeskOk (m : Int) (st : List Int) : Prop where
  lo : 0 ≤ m
  hi : m ≤ 32
  len : st.length = 32
  stands : Stands st
  rest : ∀ j : Nat, m ≤ j → st.getD j 0 = 0
theorem DeskOk.new (m : Int) : DeskOk (clampDesk m) (List.replicate 32 0) := by
  refine ⟨by unfold clampDesk; omega, by unfold clampDesk; omega, by simp, fun x hx => .inl (List.eq_of_mem_replicate hx), fun j _ => ?_⟩
  rw [List.getD_eq_getElem?_getD, List.getElem?_replicate]
  split <;> rfl
theorem DeskOk.set {m : Int} {st : List Int} (h : DeskOk m st) {c : Nat} (hc : (c : Int) < m) {x : Int} (hx : x = 0 ∨ x = 1 ∨ x = 2) : DeskOk m (st.set c x) := by
  refine ⟨h.lo, h.hi, by simp [h.len], fun y hy => ?_, fun j hj => ?_⟩
  · rcases List.mem_or_eq_of_mem_set hy with hy | rfl
    · exact h.stands y hy
    · exact hx
  · rw [List.getD_eq_getElem?_getD, List.getElem?_set_ne (by omega), ← List.getD_eq_getElem?_getD]
    exact h.rest j hj
theorem lowest_lt {st : List Int} {m : Int} : ∀ (j i : Nat) {c : Nat}, lowest st m i j = some c → (c : Int) < m
  | 0, _, _, h => by simp [lowest] at h
  | j + 1, i, c, h => by
    unfold lowest at h
    split at h
    · split at h
      · simp at h; omega
      · exact lowest_lt j _ h
    · simp at h
theorem DeskOk.open {m : Int} {st : List Int} (h : DeskOk m st) : DeskOk m (deskOpen m st).2.2 := by
  unfold deskOpen
  cases e : lowest st m 0 33 with
  | none => exact h
  | some c => exact h.set (lowest_lt _ _ e) (.inr (.inl rfl))
theorem DeskOk.turn {m : Int} {st : List Int} (h : DeskOk m st) (c : Int) {to : Int} {fs : List Int} (h0 : 0 ∉ fs) (ht : to = 0 ∨ to = 1 ∨ to = 2) : DeskOk m (deskTurn m st c to fs).2 := by
  unfold deskTurn
  split
  · rename_i hm
    have := deskState_in (m := m) (st := st) (c := c) (fun e => h0 (by rw [← e]; exact hm))
    exact h.set (by omega) ht
  · exact h
theorem many_append (a b : List Int) : many (a ++ b) = many a + many b := by simp [many]
theorem DeskOk.many {m : Int} {st : List Int} (h : DeskOk m st) : many (st.take m.toNat) = many st := by
  have e := many_append (st.take m.toNat) (st.drop m.toNat)
  rw [List.take_append_drop] at e
  have z : Go.Proofs.Ytildgpecdapnhaa.many (st.drop m.toNat) = 0 := by
    unfold Go.Proofs.Ytildgpecdapnhaa.many
    rw [List.length_eq_zero_iff, List.filter_eq_nil_iff]
    intro x hx
    obtain ⟨j, hj, rfl⟩ := List.mem_iff_getElem.1 hx
    have := h.rest (m.toNat + j) (by omega)
    rw [List.getD_eq_getElem?_getD, List.getElem?_eq_getElem (by simp at hj; omega)] at this
    simpa using this
  omega
end Go.Proofs.Ytildgpecdapnhaa
