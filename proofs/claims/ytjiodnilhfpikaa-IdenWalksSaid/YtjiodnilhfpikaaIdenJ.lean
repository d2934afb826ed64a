/-
  What asking on and on tells, and the walk over SameObjects.
-/
import Derived.Test.YtjiodnilhfpikaaIdenI
set_option linter.unusedVariables false
set_option linter.unusedSimpArgs false
namespace Go.Proofs.Ytjiodnilhfpikaa
open Go.RowKit

theorem takeFit_spec : ∀ (r acc : List Ob), ∃ j, j ≤ r.length ∧ takeFit acc r = (acc ++ r.take j, (r.drop j).head?.map (·.1)) ∧ (∀ o t, r = o :: t → objsOk 7 (acc ++ [o]) = true → 1 ≤ j)
  | [], acc => ⟨0, Nat.le_refl _, by simp [takeFit], fun o t h => by simp at h⟩
  | o :: r, acc => by
    unfold takeFit
    by_cases h : objsOk 7 (acc ++ [o]) = true
    · obtain ⟨j, hj, e, _⟩ := takeFit_spec r (acc ++ [o])
      refine ⟨j + 1, by simp; omega, ?_, fun _ _ _ _ => by omega⟩
      rw [if_pos h, e]
      simp
    · refine ⟨0, Nat.zero_le _, by rw [if_neg h]; simp, fun o' t e h2 => ?_⟩
      injection e with e1 e2
      subst e1
      exact absurd h2 h
theorem objsOk_one {o : Ob} (h1 : 0 ≤ o.1) (h2 : o.1 ≤ 255) (h3 : o.2.size ≤ 244) : objsOk 7 ([] ++ [o]) = true := by
  simp [objsOk, isByteB, h1, h2]
  omega
theorem Good.among {l : List Ob} (h : Good l) (cd : Int) : (amongL cd l).Pairwise (fun a b => a.1 < b.1) := h.rise.filter _
theorem startAt_of {la : List Ob} (hr : la.Pairwise (fun a b => a.1 < b.1)) {m : Nat} (hm : m < la.length) : startAt la[m].1 la = m := by
  unfold startAt
  rcases obIndex_spec (fun o => o.1 == la[m].1) la 0 with ⟨e, hn⟩ | ⟨i, hi, e, hp, _⟩
  · have := hn _ (List.getElem_mem hm)
    simp at this
  · have hp : la[i].1 = la[m].1 := by simpa using hp
    have hlt := List.pairwise_iff_getElem.1 hr
    have : i = m := by
      rcases Nat.lt_trichotomy i m with h | h | h
      · have := hlt i m hi hm h; omega
      · exact h
      · have := hlt m i hm hi h; omega
    rw [e]; omega
/-- One answer: what is told from the m-th on, up to the m'-th. -/
theorem told_step {l : List Ob} (h : Good l) {cd : Int} {m : Nat} (hm : m < (amongL cd l).length) :
    ∃ j, 1 ≤ j ∧ m + j ≤ (amongL cd l).length ∧ (toldOf cd (amongL cd l)[m].1 l).1 = ((amongL cd l).drop m).take j ∧
      (toldOf cd (amongL cd l)[m].1 l).2 = if hj : m + j < (amongL cd l).length then some (amongL cd l)[m + j].1 else none := by
  have hs := startAt_of (h.among cd) hm
  unfold toldOf
  rw [hs]
  obtain ⟨j, hj, e, h1⟩ := takeFit_spec ((amongL cd l).drop m) []
  have hmem : (amongL cd l)[m] ∈ l := (List.mem_filter.1 (List.getElem_mem hm)).1
  have hid := h.ids _ hmem
  refine ⟨j, h1 _ _ (List.drop_eq_getElem_cons hm) (objsOk_one hid.1 hid.2 (h.text _ hmem)), ?_, ?_, ?_⟩
  · rw [List.length_drop] at hj; omega
  · rw [e]; simp
  · rw [e]
    simp only [List.drop_drop]
    split
    · rw [List.head?_drop, List.getElem?_eq_getElem ‹_›]; rfl
    · rw [List.drop_eq_nil_of_le (by omega)]; rfl

set_option maxRecDepth 100000 in
set_option maxHeartbeats 2000000 in
/-- Two slices with the same objects are the same. -/
theorem sameObs_true (A B : Option Addr) (cA cB : Nat) (l : List Ob) (w : World) (hA : Lies w A (obsCells l)) (hB : Lies w B (obsCells l)) (hn : l.length ≤ 1000000) :
    Calls Try.prog 11 #[.slice A l.length cA, .slice B l.length cB] w fun e w' => e = .returned (.bool true) ∧ Keeps Nope w w' := by
  have HA := Lib.hid hA
  have HB := Lib.hid hB
  clear hA hB
  obtain ⟨nl, hnl⟩ : ∃ nl, nl = l.length := ⟨_, rfl⟩
  rw [← hnl] at hn ⊢
  have HNL := Lib.hid hnl
  clear hnl
  go_enter Try.func11, Try.ntmps11
  go_wp2_with (fail)
  go_loopw [5] (fun v wr => ∃ k : Nat, k ≤ nl ∧ v = .int .i64 (k : Int) ∧ Hid (Keeps Nope w wr)) (fun v _ => (nl - (intOf v)).toNat)
  case atStart => exact ⟨0, by omega, rfl, Keeps.refl _ _⟩
  case round =>
    obtain ⟨k, hk, rfl, HK⟩ := hrel
    by_cases hkn : k < nl
    · have hkl : k < l.length := by rw [← HNL.out]; exact hkn
      obtain ⟨b, o, rfl, x1, x2⟩ := (HA.out.keeps HK.out).ob hkl
      obtain ⟨b2, o2, rfl, y1, y2⟩ := (HB.out.keeps HK.out).ob hkl
      generalize l[k] = oo at *
      obtain ⟨id, tx⟩ := oo
      go_wp2_with (fail)
      go_quiet (fail)
      go_wp2_with (fail)
      go_roundw
      case rel => exact ⟨k + 1, by omega, by simp, HK.out.drewN _⟩
      case measure => simp [intOf]; omega
    · go_wp2_with (fail)
      go_ret
      exact ⟨rfl, HK.out⟩
end Go.Proofs.Ytjiodnilhfpikaa
