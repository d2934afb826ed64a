/-
  Books (plain lists).
-/
import Derived.Test.YthddlkhfkncgpaaGreatL3
set_option maxHeartbeats 1000000
set_option linter.unusedVariables false
set_option linter.unusedSimpArgs false
namespace Go.Proofs.YthddlkhfkncgpaaGreat
open Go.RowKit

theorem get_mem {b : Bk} (hw : b.Wf) {e : Nat × Int × Int} (he : e ∈ b.es) : b.get e.2.1 = some e.2.2 := by
  obtain ⟨i, hi, hie, hf⟩ := idx_of hw.ow he
  unfold Bk.get Bk.at
  rw [hf, List.getElem?_eq_getElem hi, hie]
  rfl
theorem mem_get {b : Bk} {k n : Int} (h : b.get k = some n) : ∃ e ∈ b.es, e.2.1 = k ∧ e.2.2 = n := by
  unfold Bk.get at h
  obtain ⟨e, he, rfl⟩ := Option.map_eq_some_iff.1 h
  obtain ⟨hlt, rfl⟩ := List.getElem?_eq_some_iff.1 he
  have := List.findIdx_getElem (w := hlt)
  exact ⟨_, List.getElem_mem _, eq_of_beq this, rfl⟩
theorem get_iff {b : Bk} (hw : b.Wf) {k n : Int} : b.get k = some n ↔ ∃ e ∈ b.es, e.2.1 = k ∧ e.2.2 = n :=
  ⟨mem_get, fun ⟨e, he, h1, h2⟩ => by rw [← h1, ← h2]; exact get_mem hw he⟩
theorem at_lt {b : Bk} {k : Int} : b.at k < b.es.length ↔ ∃ e ∈ b.es, e.2.1 = k := by
  unfold Bk.at
  constructor
  · intro h
    have := List.findIdx_getElem (w := h)
    exact ⟨_, List.getElem_mem _, eq_of_beq this⟩
  · rintro ⟨e, he, rfl⟩
    exact List.findIdx_lt_length_of_exists ⟨e, he, by simp⟩
theorem mem_set {b : Bk} (hw : b.Wf) (k n : Int) (j m : Int) : (∃ e ∈ (b.set k n).es, e.2.1 = j ∧ e.2.2 = m) ↔ (j = k ∧ m = n) ∨ (j ≠ k ∧ ∃ e ∈ b.es, e.2.1 = j ∧ e.2.2 = m) := by
  unfold Bk.set
  split
  · rename_i hlt
    have hk : b.es[b.at k].2.1 = k := by
      have := List.findIdx_getElem (w := hlt)
      exact eq_of_beq this
    constructor
    · rintro ⟨e, he, rfl, rfl⟩
      obtain ⟨i, hi, rfl⟩ := List.getElem_of_mem he
      have hi' : i < b.es.length := by simpa using hi
      simp only [List.getElem_modify]
      by_cases h : b.at k = i
      · subst h
        simp [hk]
      · simp only [if_neg h]
        refine .inr ⟨fun e1 => ?_, _, List.getElem_mem hi', rfl, rfl⟩
        have h1 := nodup_of hw.ow (List.getElem_mem hi') (List.getElem_mem hlt) (e1.trans hk.symm)
        have h2 : (b.es.map (·.2.1))[i]'(by simpa using hi') = (b.es.map (·.2.1))[b.at k]'(by simpa using hlt) := by simp [h1]
        exact h ((List.getElem_inj hw.ow).1 h2).symm
    · rintro (⟨rfl, rfl⟩ | ⟨hne, e, he, rfl, rfl⟩)
      · refine ⟨(b.es.modify (b.at j) fun e => (e.1, e.2.1, m))[b.at j]'(by simpa using hlt), List.getElem_mem _, ?_, ?_⟩ <;> simp [hk]
      · obtain ⟨i, hi, rfl⟩ := List.getElem_of_mem he
        have h : b.at k ≠ i := by rintro rfl; exact hne hk
        refine ⟨(b.es.modify (b.at k) fun e => (e.1, e.2.1, n))[i]'(by simpa using hi), List.getElem_mem _, ?_, ?_⟩ <;> simp [List.getElem_modify, h]
  · rename_i hlt
    have hno : ∀ e ∈ b.es, e.2.1 ≠ k := fun e he h => hlt (at_lt.2 ⟨e, he, h⟩)
    simp only [List.mem_append, List.mem_singleton]
    constructor
    · rintro ⟨e, he | rfl, rfl, rfl⟩
      · exact .inr ⟨hno e he, e, he, rfl, rfl⟩
      · exact .inl ⟨rfl, rfl⟩
    · rintro (⟨rfl, rfl⟩ | ⟨hne, e, he, rfl, rfl⟩)
      · exact ⟨_, .inr rfl, rfl, rfl⟩
      · exact ⟨e, .inl he, rfl, rfl⟩
theorem modify_map {α β : Type} {f : α → β} {g : α → α} (h : ∀ x, f (g x) = f x) (l : List α) (i : Nat) : (l.modify i g).map f = l.map f := by
  apply List.ext_getElem?
  intro j
  simp only [List.getElem?_map, List.getElem?_modify]
  cases l[j]? with
  | none => rfl
  | some x => by_cases hij : i = j <;> simp [hij, h]
theorem Bk.Wf.set {b : Bk} (hw : b.Wf) {k n : Int} (hn : 1 ≤ n ∧ n ≤ 65535) : (b.set k n).Wf := by
  unfold Bk.set
  split
  · refine ⟨(modify_map (f := fun e : Nat × Int × Int => e.1) (g := fun e => (e.1, e.2.1, n)) (fun _ => rfl) b.es (b.at k)).symm ▸ hw.st, (modify_map (f := fun e : Nat × Int × Int => e.2.1) (g := fun e => (e.1, e.2.1, n)) (fun _ => rfl) b.es (b.at k)).symm ▸ hw.ow, fun e he => ?_, fun e he => ?_⟩
    · obtain ⟨i, hi, rfl⟩ := List.getElem_of_mem he
      have hi' : i < b.es.length := by simpa using hi
      have := hw.lt _ (List.getElem_mem hi')
      simp only [List.getElem_modify]
      split <;> exact this
    · obtain ⟨i, hi, rfl⟩ := List.getElem_of_mem he
      have hi' : i < b.es.length := by simpa using hi
      have := hw.rg _ (List.getElem_mem hi')
      simp only [List.getElem_modify]
      split
      · exact hn
      · exact this
  · rename_i hlt
    have hno : ∀ e ∈ b.es, e.2.1 ≠ k := fun e he h => hlt (at_lt.2 ⟨e, he, h⟩)
    refine ⟨?_, ?_, fun e he => ?_, fun e he => ?_⟩
    · rw [List.map_append, List.nodup_append]
      refine ⟨hw.st, by simp, fun x hx y hy => ?_⟩
      obtain ⟨e, he, rfl⟩ := List.mem_map.1 hx
      simp at hy
      subst hy
      have := hw.lt e he
      omega
    · rw [List.map_append, List.nodup_append]
      refine ⟨hw.ow, by simp, fun x hx y hy => ?_⟩
      obtain ⟨e, he, rfl⟩ := List.mem_map.1 hx
      simp at hy
      subst hy
      exact hno e he
    · rcases List.mem_append.1 he with h | h
      · have := hw.lt e h
        show e.1 < b.ck + 1
        omega
      · simp at h
        subst h
        show b.ck < b.ck + 1
        omega
    · rcases List.mem_append.1 he with h | h
      · exact hw.rg e h
      · simp at h
        subst h
        exact hn
theorem del_es {b : Bk} (hw : b.Wf) (k : Int) : (b.del k).es = b.es.filter fun e => e.2.1 != k := del_filter hw.ow
theorem Bk.Wf.del {b : Bk} (hw : b.Wf) (k : Int) : (b.del k).Wf := by
  have hs : (b.del k).es.Sublist b.es := List.eraseIdx_sublist _ _
  exact ⟨hw.st.sublist (hs.map _), hw.ow.sublist (hs.map _), fun e he => hw.lt e (hs.subset he), fun e he => hw.rg e (hs.subset he)⟩
theorem mem_del {b : Bk} (hw : b.Wf) (k : Int) (j m : Int) : (∃ e ∈ (b.del k).es, e.2.1 = j ∧ e.2.2 = m) ↔ (j ≠ k ∧ ∃ e ∈ b.es, e.2.1 = j ∧ e.2.2 = m) := by
  rw [del_es hw]
  constructor
  · rintro ⟨e, he, rfl, rfl⟩
    obtain ⟨h1, h2⟩ := List.mem_filter.1 he
    exact ⟨by simpa using h2, e, h1, rfl, rfl⟩
  · rintro ⟨hne, e, he, rfl, rfl⟩
    exact ⟨e, List.mem_filter.2 ⟨he, by simpa using hne⟩, rfl, rfl⟩
theorem Bk.Wf.tick {b : Bk} (hw : b.Wf) : b.tick.Wf := by
  have hs : (b.es.filter fun e => !decide (e.2.2 ≤ 1)).Sublist b.es := List.filter_sublist
  refine ⟨?_, ?_, fun e he => ?_, fun e he => ?_⟩
  · simp only [Bk.tick, List.map_map]
    exact hw.st.sublist (hs.map _)
  · simp only [Bk.tick, List.map_map]
    exact hw.ow.sublist (hs.map _)
  · simp only [Bk.tick, List.mem_map] at he
    obtain ⟨x, hx, rfl⟩ := he
    exact hw.lt x (hs.subset hx)
  · simp only [Bk.tick, List.mem_map, List.mem_filter] at he
    obtain ⟨x, ⟨hx, hc⟩, rfl⟩ := he
    have := hw.rg x hx
    simp at hc
    simp only
    omega
theorem mem_tick {b : Bk} (j m : Int) : (∃ e ∈ b.tick.es, e.2.1 = j ∧ e.2.2 = m) ↔ (1 < m + 1 ∧ ∃ e ∈ b.es, e.2.1 = j ∧ e.2.2 = m + 1) := by
  constructor
  · rintro ⟨e, he, rfl, rfl⟩
    simp only [Bk.tick, List.mem_map, List.mem_filter] at he
    obtain ⟨x, ⟨hx, hc⟩, rfl⟩ := he
    simp at hc
    exact ⟨by simp only; omega, x, hx, rfl, by simp only; omega⟩
  · rintro ⟨h1, e, he, rfl, h2⟩
    refine ⟨(e.1, e.2.1, e.2.2 - 1), ?_, rfl, by simp only; omega⟩
    simp only [Bk.tick, List.mem_map, List.mem_filter]
    exact ⟨e, ⟨he, by simp; omega⟩, rfl⟩
theorem mem_out {b : Bk} (hw : b.Wf) (k : Int) : k ∈ b.out ↔ b.get k = some 1 := by
  rw [get_iff hw]
  simp only [Bk.out, List.mem_map, List.mem_filter, decide_eq_true_eq]
  constructor
  · rintro ⟨e, ⟨he, hc⟩, rfl⟩
    have := hw.rg e he
    exact ⟨e, he, rfl, by omega⟩
  · rintro ⟨e, he, rfl, h⟩
    exact ⟨e, ⟨he, by omega⟩, rfl⟩
theorem out_nodup {b : Bk} (hw : b.Wf) : b.out.Nodup := hw.ow.sublist (List.filter_sublist.map _)
theorem sorted_ext : ∀ {l m : List Int}, l.Pairwise (· < ·) → m.Pairwise (· < ·) → (∀ x, x ∈ l ↔ x ∈ m) → l = m
  | [], [], _, _, _ => rfl
  | [], y :: m, _, _, h => absurd ((h y).2 (by simp)) (by simp)
  | x :: l, [], _, _, h => absurd ((h x).1 (by simp)) (by simp)
  | x :: l, y :: m, hl, hm, h => by
    rw [List.pairwise_cons] at hl hm
    have e : x = y := by
      rcases List.mem_cons.1 ((h x).1 (by simp)) with e | h1
      · exact e
      · rcases List.mem_cons.1 ((h y).2 (by simp)) with e | h2
        · exact e.symm
        · have := hl.1 y h2
          have := hm.1 x h1
          omega
    subst e
    congr 1
    refine sorted_ext hl.2 hm.2 fun z => ?_
    constructor
    · intro hz
      rcases List.mem_cons.1 ((h z).1 (by simp [hz])) with e | h1
      · subst e
        have := hl.1 z hz
        omega
      · exact h1
    · intro hz
      rcases List.mem_cons.1 ((h z).2 (by simp [hz])) with e | h1
      · subst e
        have := hm.1 z hz
        omega
      · exact h1
theorem srt_strict {l : List Int} (h : l.Nodup) : (srt l).Pairwise (· < ·) := by
  have h1 := srt_sorted l
  have h2 : (srt l).Nodup := h.perm (srt_perm l).symm
  exact List.Pairwise.imp (fun ⟨a, b⟩ => by omega) (List.Pairwise.and h1 h2)
end Go.Proofs.YthddlkhfkncgpaaGreat
