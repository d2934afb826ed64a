/-
  Sessions: how they stand; maps of them.
-/
import Derived.Test.YtpnbncdclgmegaaT14
import Derived.Test.YtpnbncdclgmegaaT13m
set_option maxRecDepth 100000
set_option maxHeartbeats 1000000
set_option linter.unusedVariables false
set_option linter.unusedSimpArgs false
namespace Go.Proofs.Ytpnbncdclgmegaa
open Go.RowKit

/-- How a session stands. -/
structure Ses where
  st : Int
  re : Int
  le : Int
  q : Int
def sds (v : Ses) : List D := [.int .i64 v.st, .int .i64 v.re, .int .i64 v.le, .int .u64 v.q]
/-- The sessions that are otherwise than at first. -/
structure Ao where
  ck : Nat
  es : List (Nat × Int × Ses)
def aoE (e : Nat × Int × Ses) : Nat × Int × List D := (e.1, e.2.1, sds e.2.2)
def Ao.mp (b : Ao) : Mp := ⟨b.ck, b.es.map aoE⟩
def Ao.at (b : Ao) (k : Int) : Nat := b.es.findIdx fun e => e.2.1 == k
def Ao.get (b : Ao) (k : Int) : Option Ses := (b.es[b.at k]?).map (·.2.2)
def Ao.set (b : Ao) (k : Int) (v : Ses) : Ao := if b.at k < b.es.length then ⟨b.ck, b.es.modify (b.at k) fun e => (e.1, e.2.1, v)⟩ else ⟨b.ck + 1, b.es ++ [(b.ck, k, v)]⟩
def Ao.del (b : Ao) (k : Int) : Ao := ⟨b.ck, b.es.eraseIdx (b.at k)⟩
theorem Ao.at_eq (b : Ao) (k : Int) : b.mp.at k = b.at k := by
  unfold Mp.at Ao.at Ao.mp
  rw [List.findIdx_map]
  rfl
theorem Ao.get_eq (b : Ao) (k : Int) : b.mp.get k = (b.get k).map sds := by
  unfold Mp.get Ao.get
  rw [Ao.at_eq]
  simp [Ao.mp, aoE]
  cases b.es[b.at k]? <;> rfl
theorem Ao.set_eq (b : Ao) (k : Int) (v : Ses) : b.mp.set k (sds v) = (b.set k v).mp := by
  unfold Mp.set Ao.set
  rw [Ao.at_eq]
  have : b.mp.es.length = b.es.length := by simp [Ao.mp]
  rw [this]
  split
  · simp only [Ao.mp, Mp.mk.injEq, true_and]
    apply List.ext_getElem?
    intro i
    simp [List.getElem?_modify]
    cases b.es[i]? with
    | none => rfl
    | some e => by_cases h : b.at k = i <;> simp [h, aoE]
  · simp [Ao.mp, aoE]
theorem Ao.del_eq (b : Ao) (k : Int) : b.mp.del k = (b.del k).mp := by
  unfold Mp.del Ao.del
  rw [Ao.at_eq]
  simp only [Ao.mp, Mp.mk.injEq, true_and]
  apply List.ext_getElem?
  intro i
  simp [List.getElem?_eraseIdx]
  split <;> rfl
theorem Ao.len (b : Ao) : b.mp.es.length = b.es.length := by simp [Ao.mp]
theorem Ao.at_lt {M : Ao} {k : Int} {v : Ses} (h : M.get k = some v) : ∃ hlt : M.at k < M.es.length, M.es[M.at k].2.1 = k ∧ M.es[M.at k].2.2 = v := by
  unfold Ao.get at h
  obtain ⟨e, h1, h2⟩ := Option.map_eq_some_iff.1 h
  obtain ⟨hlt, he⟩ := List.getElem?_eq_some_iff.1 h1
  refine ⟨hlt, ?_, by rw [he]; exact h2⟩
  have : (M.es[M.at k].2.1 == k) = true := List.findIdx_getElem (w := hlt)
  simpa using this
theorem Ao.set_self {M : Ao} {k : Int} {v : Ses} (h : M.get k = some v) : M.set k v = M := by
  obtain ⟨hlt, h1, h2⟩ := Ao.at_lt h
  unfold Ao.set
  rw [if_pos hlt]
  show Ao.mk _ _ = Ao.mk M.ck M.es
  congr 1
  apply List.ext_getElem?
  intro i
  rw [List.getElem?_modify]
  by_cases hi : M.at k = i
  · subst hi
    simp [hlt, ← h2]
  · simp [hi]
theorem Ao.at_set {M : Ao} {k : Int} {u v : Ses} (h : M.get k = some u) : (M.set k v).at k = M.at k := by
  obtain ⟨hlt, h1, h2⟩ := Ao.at_lt h
  unfold Ao.set
  rw [if_pos hlt]
  unfold Ao.at
  have : ∀ (l : List (Nat × Int × Ses)) (j : Nat), List.findIdx (fun e => e.2.1 == k) (l.modify j fun e => (e.1, e.2.1, v)) = List.findIdx (fun e => e.2.1 == k) l := by
    intro l
    induction l with
    | nil => intro j; simp
    | cons e l ih =>
      intro j
      cases j with
      | zero => simp [List.findIdx_cons]
      | succ j => simp [List.findIdx_cons, ih j]
  exact this _ _
theorem Ao.get_set {M : Ao} {k : Int} {u v : Ses} (h : M.get k = some u) : (M.set k v).get k = some v := by
  have ha := Ao.at_set (v := v) h
  obtain ⟨hlt, h1, h2⟩ := Ao.at_lt h
  unfold Ao.get
  rw [ha]
  unfold Ao.set
  rw [if_pos hlt]
  simp [List.getElem?_modify, hlt]
theorem Ao.set_set {M : Ao} {k : Int} {u v x : Ses} (h : M.get k = some u) : (M.set k v).set k x = M.set k x := by
  have ha := Ao.at_set (v := v) h
  obtain ⟨hlt, h1, h2⟩ := Ao.at_lt h
  have hl : (M.set k v).es.length = M.es.length := by unfold Ao.set; rw [if_pos hlt]; simp
  have e1 : (M.set k v).set k x = ⟨(M.set k v).ck, (M.set k v).es.modify (M.at k) fun e => (e.1, e.2.1, x)⟩ := by
    rw [← ha]
    unfold Ao.set
    exact if_pos (by have : (M.set k v).at k < (M.set k v).es.length := by rw [ha, hl]; exact hlt
                     exact this)
  rw [e1]
  unfold Ao.set
  rw [if_pos hlt, if_pos hlt]
  simp only [Ao.mk.injEq, true_and]
  apply List.ext_getElem?
  intro i
  simp only [List.getElem?_modify]
  by_cases hi : M.at k = i
  · subst hi
    simp [hlt]
  · simp [hi]
theorem Ao.get_set_ne {M : Ao} {k j : Int} {v : Ses} (h : j ≠ k) : (M.set k v).get j = M.get j := by
  have hidx : ∀ (l : List (Nat × Int × Ses)) (i : Nat), List.findIdx (fun e => e.2.1 == j) (l.modify i fun e => (e.1, e.2.1, v)) = List.findIdx (fun e => e.2.1 == j) l := by
    intro l
    induction l with
    | nil => intro i; simp
    | cons e l ih =>
      intro i
      cases i with
      | zero => simp [List.findIdx_cons]
      | succ i => simp [List.findIdx_cons, ih i]
  unfold Ao.set
  split
  · rename_i hlt
    unfold Ao.get
    have ha : (⟨M.ck, M.es.modify (M.at k) fun e => (e.1, e.2.1, v)⟩ : Ao).at j = M.at j := hidx _ _
    rw [ha, List.getElem?_modify]
    have hne : ∀ e, M.es[M.at j]? = some e → M.at k ≠ M.at j := fun e he hkj => by
      have h1 : (M.es[M.at k].2.1 == k) = true := List.findIdx_getElem (w := hlt)
      obtain ⟨hl, he'⟩ := List.getElem?_eq_some_iff.1 he
      have h2 : (M.es[M.at j].2.1 == j) = true := List.findIdx_getElem (w := hl)
      simp only [hkj] at h1
      have h1 : M.es[M.at j].2.1 = k := by simpa using h1
      have h2 : M.es[M.at j].2.1 = j := by simpa using h2
      exact h (h2.symm.trans h1)
    cases he : M.es[M.at j]? with
    | none => simp
    | some e => simp [hne e he]
  · unfold Ao.get Ao.at
    simp only
    rw [List.findIdx_append]
    by_cases hlt : List.findIdx (fun e : Nat × Int × Ses => e.2.1 == j) M.es < M.es.length
    · rw [if_pos hlt, List.getElem?_append_left hlt]
    · rw [if_neg hlt]
      have hkj : (k == j) = false := by simpa using Ne.symm h
      have e1 : List.findIdx (fun e : Nat × Int × Ses => e.2.1 == j) [(M.ck, k, v)] = 1 := by simp [List.findIdx_cons, hkj]
      rw [e1, List.getElem?_eq_none (by simp; omega), List.getElem?_eq_none (by omega)]
theorem Ao.get_del_ne {M : Ao} {k j : Int} (h : j ≠ k) : (M.del k).get j = M.get j := by
  have key : ∀ (l : List (Nat × Int × Ses)), ((l.eraseIdx (l.findIdx fun e => e.2.1 == k))[(l.eraseIdx (l.findIdx fun e => e.2.1 == k)).findIdx fun e => e.2.1 == j]?).map (·.2.2) = (l[l.findIdx fun e => e.2.1 == j]?).map (·.2.2) := by
    intro l
    induction l with
    | nil => rfl
    | cons e l ih =>
      rw [List.findIdx_cons]
      by_cases hk : e.2.1 = k
      · have h1 : (e.2.1 == k) = true := by simpa using hk
        have h2 : (e.2.1 == j) = false := by simpa [hk] using Ne.symm h
        rw [h1, cond_true, List.eraseIdx_cons_zero, List.findIdx_cons, h2, cond_false, List.getElem?_cons_succ]
      · have h1 : (e.2.1 == k) = false := by simpa using hk
        rw [h1, cond_false, List.eraseIdx_cons_succ, List.findIdx_cons, List.findIdx_cons]
        by_cases hj : e.2.1 = j
        · have h2 : (e.2.1 == j) = true := by simpa using hj
          rw [h2]
          rfl
        · have h2 : (e.2.1 == j) = false := by simpa using hj
          rw [h2]
          simpa using ih
  exact key M.es
theorem Ao.get_set_eq {M : Ao} {k : Int} {v : Ses} : (M.set k v).get k = some v := by
  cases h : M.get k with
  | some u => exact Ao.get_set h
  | none =>
    have hnl : ¬ M.at k < M.es.length := fun hl => by unfold Ao.get at h; rw [List.getElem?_eq_getElem hl] at h; cases h
    unfold Ao.set
    rw [if_neg hnl]
    unfold Ao.get Ao.at
    simp only
    have hge : List.findIdx (fun e : Nat × Int × Ses => e.2.1 == k) M.es = M.es.length := by have := @List.findIdx_le_length _ (fun e : Nat × Int × Ses => e.2.1 == k) M.es; unfold Ao.at at hnl; omega
    rw [List.findIdx_append, hge, if_neg (by omega)]
    simp
end Go.Proofs.Ytpnbncdclgmegaa
