/-
  Transactions by their owners: what was set is got.
-/
import Derived.Test.YtpnbncdclgmegaaT13
set_option maxRecDepth 100000
set_option maxHeartbeats 1000000
set_option linter.unusedVariables false
set_option linter.unusedSimpArgs false
namespace Go.Proofs.Ytpnbncdclgmegaa
open Go.RowKit

theorem Mo.at_lt {M : Mo} {k : Int} {v : Vw} (h : M.get k = some v) : ∃ hlt : M.at k < M.es.length, M.es[M.at k].2.1 = k ∧ M.es[M.at k].2.2 = v := by
  unfold Mo.get at h
  obtain ⟨e, h1, h2⟩ := Option.map_eq_some_iff.1 h
  obtain ⟨hlt, he⟩ := List.getElem?_eq_some_iff.1 h1
  refine ⟨hlt, ?_, by rw [he]; exact h2⟩
  have : (M.es[M.at k].2.1 == k) = true := List.findIdx_getElem (w := hlt)
  simpa using this
theorem Mo.set_self {M : Mo} {k : Int} {v : Vw} (h : M.get k = some v) : M.set k v = M := by
  obtain ⟨hlt, h1, h2⟩ := Mo.at_lt h
  unfold Mo.set
  rw [if_pos hlt]
  show Mo.mk _ _ = Mo.mk M.ck M.es
  congr 1
  apply List.ext_getElem?
  intro i
  rw [List.getElem?_modify]
  by_cases hi : M.at k = i
  · subst hi
    simp [hlt, ← h2]
  · simp [hi]
theorem Mo.at_set {M : Mo} {k : Int} {u v : Vw} (h : M.get k = some u) : (M.set k v).at k = M.at k := by
  obtain ⟨hlt, h1, h2⟩ := Mo.at_lt h
  unfold Mo.set
  rw [if_pos hlt]
  unfold Mo.at
  have : ∀ (l : List (Nat × Int × Vw)) (j : Nat), List.findIdx (fun e => e.2.1 == k) (l.modify j fun e => (e.1, e.2.1, v)) = List.findIdx (fun e => e.2.1 == k) l := by
    intro l
    induction l with
    | nil => intro j; simp
    | cons e l ih =>
      intro j
      cases j with
      | zero => simp [List.findIdx_cons]
      | succ j => simp [List.findIdx_cons, ih j]
  exact this _ _
theorem Mo.get_set {M : Mo} {k : Int} {u v : Vw} (h : M.get k = some u) : (M.set k v).get k = some v := by
  have ha := Mo.at_set (v := v) h
  obtain ⟨hlt, h1, h2⟩ := Mo.at_lt h
  unfold Mo.get
  rw [ha]
  unfold Mo.set
  rw [if_pos hlt]
  simp [List.getElem?_modify, hlt]
theorem Mo.set_set {M : Mo} {k : Int} {u v x : Vw} (h : M.get k = some u) : (M.set k v).set k x = M.set k x := by
  have ha := Mo.at_set (v := v) h
  obtain ⟨hlt, h1, h2⟩ := Mo.at_lt h
  have hl : (M.set k v).es.length = M.es.length := by unfold Mo.set; rw [if_pos hlt]; simp
  have e1 : (M.set k v).set k x = ⟨(M.set k v).ck, (M.set k v).es.modify (M.at k) fun e => (e.1, e.2.1, x)⟩ := by
    rw [← ha]
    unfold Mo.set
    exact if_pos (by have : (M.set k v).at k < (M.set k v).es.length := by rw [ha, hl]; exact hlt
                     exact this)
  rw [e1]
  unfold Mo.set
  rw [if_pos hlt, if_pos hlt]
  simp only [Mo.mk.injEq, true_and]
  apply List.ext_getElem?
  intro i
  simp only [List.getElem?_modify]
  by_cases hi : M.at k = i
  · subst hi
    simp [hlt]
  · simp [hi]
theorem Mo.get_set_ne {M : Mo} {k j : Int} {v : Vw} (h : j ≠ k) : (M.set k v).get j = M.get j := by
  have hidx : ∀ (l : List (Nat × Int × Vw)) (i : Nat), List.findIdx (fun e => e.2.1 == j) (l.modify i fun e => (e.1, e.2.1, v)) = List.findIdx (fun e => e.2.1 == j) l := by
    intro l
    induction l with
    | nil => intro i; simp
    | cons e l ih =>
      intro i
      cases i with
      | zero => simp [List.findIdx_cons]
      | succ i => simp [List.findIdx_cons, ih i]
  unfold Mo.set
  split
  · rename_i hlt
    unfold Mo.get
    have ha : (⟨M.ck, M.es.modify (M.at k) fun e => (e.1, e.2.1, v)⟩ : Mo).at j = M.at j := hidx _ _
    rw [ha, List.getElem?_modify]
    have hne : ∀ e, M.es[M.at j]? = some e → M.at k ≠ M.at j := fun e he hkj => by
      have h1 : (M.es[M.at k].2.1 == k) = true := List.findIdx_getElem (w := hlt)
      obtain ⟨hl, he'⟩ := List.getElem?_eq_some_iff.1 he
      have h2 : (M.es[M.at j].2.1 == j) = true := List.findIdx_getElem (w := hl)
      simp only [hkj] at h1
      have h1 : M.es[M.at j].2.1 = k := by simpa using h1
      have h2 : M.es[M.at j].2.1 = j := by simpa using h2
      exact h (h2.symm.trans h1)
    cases he : M.es[M.at j]? with
    | none => simp
    | some e => simp [hne e he]
  · unfold Mo.get Mo.at
    simp only
    rw [List.findIdx_append]
    by_cases hlt : List.findIdx (fun e : Nat × Int × Vw => e.2.1 == j) M.es < M.es.length
    · rw [if_pos hlt, List.getElem?_append_left hlt]
    · rw [if_neg hlt]
      have hkj : (k == j) = false := by simpa using Ne.symm h
      have e1 : List.findIdx (fun e : Nat × Int × Vw => e.2.1 == j) [(M.ck, k, v)] = 1 := by simp [List.findIdx_cons, hkj]
      rw [e1, List.getElem?_eq_none (by simp; omega), List.getElem?_eq_none (by omega)]
theorem Mo.get_del_ne {M : Mo} {k j : Int} (h : j ≠ k) : (M.del k).get j = M.get j := by
  have key : ∀ (l : List (Nat × Int × Vw)), ((l.eraseIdx (l.findIdx fun e => e.2.1 == k))[(l.eraseIdx (l.findIdx fun e => e.2.1 == k)).findIdx fun e => e.2.1 == j]?).map (·.2.2) = (l[l.findIdx fun e => e.2.1 == j]?).map (·.2.2) := by
    intro l
    induction l with
    | nil => rfl
    | cons e l ih =>
      rw [List.findIdx_cons]
      by_cases hk : e.2.1 = k
      · have h1 : (e.2.1 == k) = true := by simpa using hk
        have h2 : (e.2.1 == j) = false := by simpa [hk] using Ne.symm h
        rw [h1, cond_true, List.eraseIdx_cons_zero, List.findIdx_cons, h2, cond_false, List.getElem?_cons_succ]
      · have h1 : (e.2.1 == k) = false := by simpa using hk
        rw [h1, cond_false, List.eraseIdx_cons_succ, List.findIdx_cons, List.findIdx_cons]
        by_cases hj : e.2.1 = j
        · have h2 : (e.2.1 == j) = true := by simpa using hj
          rw [h2]
          rfl
        · have h2 : (e.2.1 == j) = false := by simpa using hj
          rw [h2]
          simpa using ih
  exact key M.es
theorem Mo.get_set_eq {M : Mo} {k : Int} {v : Vw} : (M.set k v).get k = some v := by
  cases h : M.get k with
  | some u => exact Mo.get_set h
  | none =>
    have hnl : ¬ M.at k < M.es.length := fun hl => by unfold Mo.get at h; rw [List.getElem?_eq_getElem hl] at h; cases h
    unfold Mo.set
    rw [if_neg hnl]
    unfold Mo.get Mo.at
    simp only
    have hge : List.findIdx (fun e : Nat × Int × Vw => e.2.1 == k) M.es = M.es.length := by have := @List.findIdx_le_length _ (fun e : Nat × Int × Vw => e.2.1 == k) M.es; unfold Mo.at at hnl; omega
    rw [List.findIdx_append, hge, if_neg (by omega)]
    simp
end Go.Proofs.Ytpnbncdclgmegaa
