/-
  Both answers to who the device is are the same.
-/
import Derived.Test.YthddlkhfkncgpaaGreatI4
import Derived.Test.YthddlkhfkncgpaaGreatM31f
set_option maxRecDepth 100000
set_option maxHeartbeats 1000000
set_option linter.unusedVariables false
set_option linter.unusedSimpArgs false
namespace Go.Proofs.YthddlkhfkncgpaaGreat
open Go.RowKit

theorem fromF_spec (x last : Int) (l : List Obj) : ∀ n, n ≤ l.length → (∃ j, ∃ h : j < l.length, j < n ∧ l[j].1 = x ∧ x ≤ last ∧ fromF x last l n = j) ∨ ((∀ j, ∀ h : j < l.length, j < n → ¬ (l[j].1 = x ∧ x ≤ last)) ∧ fromF x last l n = 0)
  | 0, _ => .inr ⟨fun j _ h => by omega, rfl⟩
  | n + 1, hn => by
    have hl : n < l.length := by omega
    have hg : l.getD n default = l[n] := by simp [List.getD_eq_getElem?_getD, hl]
    unfold fromF
    rw [hg]
    by_cases h : l[n].1 = x ∧ x ≤ last
    · rw [if_pos h]
      exact .inl ⟨n, hl, by omega, h.1, h.2, rfl⟩
    · rw [if_neg h]
      rcases fromF_spec x last l n (by omega) with ⟨j, h1, h2, h3, h4, h5⟩ | ⟨h1, h2⟩
      · exact .inl ⟨j, h1, by omega, h3, h4, h5⟩
      · refine .inr ⟨fun j hj hjn => ?_, h2⟩
        by_cases e : j = n
        · subst e; exact h
        · exact h1 j hj (by omega)
theorem answer_eq {l : List Obj} (h : ObjsOk l) (c x : Int) : answerL l c x = answerR l c x := by
  unfold answerL answerR
  split
  · rename_i hh
    split
    · rfl
    · rename_i h4
      have hc : c = 1 ∨ c = 2 ∨ c = 3 := by omega
      have hlv := levelL_rng l 129
      generalize levelL 129 l = lv at *
      generalize hL : lastN c = last at *
      have hm : amongO c l = l.takeWhile fun o => decide (o.1 ≤ last) := by
        rw [← filter_take h.up]
        unfold amongO keptO
        rw [hL]
        refine List.filter_congr fun o _ => ?_
        by_cases h : o.1 ≤ last
        · simp [h]
        · simp [h]; omega
      rw [hm]
      have hpre : ∀ k, ∀ hk : k < (l.takeWhile fun o => decide (o.1 ≤ last)).length, ∃ hk' : k < l.length, (l.takeWhile fun o => decide (o.1 ≤ last))[k] = l[k] := fun k hk => by
        have hp := List.takeWhile_prefix (fun o : Obj => decide (o.1 ≤ last)) (l := l)
        exact ⟨Nat.lt_of_lt_of_le hk hp.length_le, hp.getElem hk⟩
      have hmem : ∀ o ∈ (l.takeWhile fun o => decide (o.1 ≤ last)), o.1 ≤ last := fun o ho => by
        rw [← filter_take h.up] at ho
        simpa using (List.mem_filter.1 ho).2
      have hin : ∀ o ∈ l, o.1 ≤ last → o ∈ (l.takeWhile fun o => decide (o.1 ≤ last)) := fun o ho hl => by
        rw [← filter_take h.up]
        exact List.mem_filter.2 ⟨ho, by simpa using hl⟩
      have hk : (max (idxF (fun o => o.1 == x) 0 (l.takeWhile fun o => decide (o.1 ≤ last))) 0).toNat = fromF x last l l.length ∧ fromF x last l l.length ≤ (l.takeWhile fun o => decide (o.1 ≤ last)).length := by
        by_cases hn : idxF (fun o => o.1 == x) 0 (l.takeWhile fun o => decide (o.1 ≤ last)) = -1
        · have hno := idxF_none hn
          rcases fromF_spec x last l l.length (Nat.le_refl _) with ⟨j, h1, h2, h3, h4, h5⟩ | ⟨h1, h2⟩
          · have := hno _ (hin _ (List.getElem_mem h1) (by omega))
            simp [h3] at this
          · rw [hn, h2]; exact ⟨by omega, by omega⟩
        · obtain ⟨k, hk, e1, e2, _⟩ := idxF_some hn
          obtain ⟨hk', e3⟩ := hpre k hk
          rw [e3] at e2
          have hx : l[k].1 = x := by simpa using e2
          have hle : x ≤ last := by
            have := hmem _ (List.getElem_mem hk)
            rw [e3, hx] at this
            exact this
          rcases fromF_spec x last l l.length (Nat.le_refl _) with ⟨j, h1, h2, h3, h4, h5⟩ | ⟨h1, h2⟩
          · have hjk : j = k := by
              rcases Nat.lt_trichotomy j k with hlt | he | hgt
              · have := List.pairwise_iff_getElem.1 h.up j k h1 hk' hlt
                omega
              · exact he
              · have := List.pairwise_iff_getElem.1 h.up k j hk' h1 hgt
                omega
            subst hjk
            rw [e1, h5]
            exact ⟨by omega, by omega⟩
          · exact absurd ⟨hx, hle⟩ (h1 k hk' hk')
      rw [hk.1, drop_takeWhile _ _ _ hk.2]
      have e := goA_goR (last := last) hc hlv (l.drop (fromF x last l l.length)) [] rfl fun o ho => h.id o (List.mem_of_mem_drop ho)
      rw [show (7 : Int) + sumO [] = 7 by simp [sumO]] at e
      rw [← e]
      rfl
  · rfl
theorem sumO_le {os : List Obj} : ∀ {n : Int}, objsOk n os = true → n + sumO os ≤ max 253 n := by
  induction os with
  | nil => intro n _; simp [sumO]; omega
  | cons o os ih =>
    intro n h
    simp only [objsOk, Bool.and_eq_true, decide_eq_true_eq] at h
    have := ih h.2
    have e : n + 2 + (o.2.size : Int) + sumO os = n + sumO (o :: os) := by simp [sumO]; omega
    omega
theorem goR_props {c lv last : Int} (hc : c = 1 ∨ c = 2 ∨ c = 3) (hl : lv = 129 ∨ lv = 130 ∨ lv = 131) : ∀ (r os : List Obj), objsOk 7 os = true → (∀ o ∈ r, 0 ≤ o.1 ∧ o.1 ≤ 255) →
    ∃ os' mo nx, goR c lv last (7 + sumO os) os r = { tO c lv os' with more := mo, next := nx } ∧ objsOk 7 os' = true ∧ 0 ≤ nx ∧ nx ≤ 255 ∧ ∀ o ∈ os', o ∈ os ∨ o ∈ r
  | [], os, h, hi => ⟨os, false, 0, rfl, h, by omega, by omega, fun o ho => .inl ho⟩
  | o :: r, os, h, hi => by
    rw [goR_cons]
    have ho := hi o (by simp)
    split
    · split
      · exact ⟨os, true, o.1, rfl, h, ho.1, ho.2, fun p hp => .inl hp⟩
      · rename_i hs
        have e2 : 7 + sumO os + 2 + (o.2.size : Int) = 7 + sumO (os ++ [o]) := by simp [sumO]; omega
        rw [e2]
        have hb : bytefulB o.1 = true := decide_eq_true ho
        obtain ⟨os', mo, nx, h1, h2, h3, h4, h5⟩ := goR_props hc hl r (os ++ [o]) (by rw [objsOk_snoc, h, hb]; simp; omega) fun p hp => hi p (by simp [hp])
        refine ⟨os', mo, nx, h1, h2, h3, h4, fun p hp => ?_⟩
        rcases h5 p hp with h | h
        · rcases List.mem_append.1 h with h | h
          · exact .inl h
          · rw [List.mem_singleton.1 h]; exact .inr (by simp)
        · exact .inr (by simp [h])
    · exact ⟨os, false, 0, rfl, h, by omega, by omega, fun p hp => .inl hp⟩
theorem answerR_fine {l : List Obj} (h : ObjsOk l) (hl : l.length ≤ 43) (c x : Int) : (answerR l c x).1.Fit ∧ b64 (answerR l c x).2 ∧ ((answerR l c x).2 = 0 → (answerR l c x).1.right = true ∧ (answerR l c x).1.exc = 0) := by
  unfold answerR
  split
  · rename_i hh
    have hlv := levelL_rng l 129
    generalize levelL 129 l = lv at *
    split
    · split
      · exact ⟨tFit0, by simp [b64], fun h => by simp at h⟩
      · rename_i hn
        obtain ⟨k, hk, e1, _, _⟩ := idxF_some hn
        have hg : l.getD (idxF (fun o => o.1 == x) 0 l).toNat default = l[k] := by
          rw [e1, Nat.zero_add, Int.toNat_natCast]; simp [List.getD_eq_getElem?_getD, hk]
        rw [hg]
        have hi := h.id _ (List.getElem_mem hk)
        have hs := h.sz _ (List.getElem_mem hk)
        generalize l[k] = o at *
        refine ⟨tO_fit (by simp [b64]) (by simp only [b64]; omega) (by simp) (fun p hp => ?_), by simp [b64], fun _ => ⟨?_, rfl⟩⟩
        · rw [List.mem_singleton.1 hp]; simp only [b64]; omega
        · rcases hlv with rfl | rfl | rfl <;>
            simp [Tell.right, tO, known, tEq, Tell.only, placeB, Tell.rest, countsB, bytefulB, objsOk] <;> omega
    · rename_i h4
      obtain ⟨os, mo, nx, e, h1, h2, h3, h5⟩ := goR_props (last := lastN c) (show c = 1 ∨ c = 2 ∨ c = 3 by omega) hlv (l.drop (fromF x (lastN c) l l.length)) [] rfl fun o ho => h.id o (List.mem_of_mem_drop ho)
      rw [show (7 : Int) + sumO [] = 7 by simp [sumO]] at e
      rw [e]
      have hos : ∀ o ∈ os, o ∈ l := fun o ho => (h5 o ho).elim (fun h => by simp at h) fun h => List.mem_of_mem_drop h
      have hsz : 2 * (os.length : Int) ≤ sumO os := by
        clear e h1 h5 hos
        induction os with
        | nil => simp [sumO]
        | cons o os ih => simp [sumO] at *; omega
      have hsm := sumO_le h1
      have hlen : os.length ≤ 1000 := by omega
      have hob : ∀ o ∈ os, b64 o.1 ∧ o.2.size ≤ 1000000 := fun o ho => by
        have a1 := h.id o (hos o ho)
        have a2 := h.sz o (hos o ho)
        simp only [b64]; omega
      refine ⟨?_, by simp [b64], fun _ => ⟨?_, rfl⟩⟩
      · exact ⟨by simp [tO, b64], by simp [tO, b64], by simp [tO], by simp [tO], wrd_nil, by simp [tO, b64], by simp [tO, b64], by simp [tO], by simp [tO], by simp [tO], by simp only [tO, b64]; omega, by simp only [tO, b64]; omega, by simp only [b64]; omega, by simp only [tO]; omega, hob⟩
      · rcases hlv with rfl | rfl | rfl <;>
          simp [Tell.right, tO, known, tEq, Tell.only, placeB, Tell.rest, countsB, bytefulB, h1] <;> exact ⟨decide_eq_true (by omega), h2, h3⟩
  · exact ⟨tFit0, by simp [b64], fun h => by simp at h⟩
end Go.Proofs.YthddlkhfkncgpaaGreat
