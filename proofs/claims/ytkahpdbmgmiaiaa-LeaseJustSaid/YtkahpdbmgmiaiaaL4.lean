/-
  Both books show the same (plain lists).
-/
import Derived.Test.YtkahpdbmgmiaiaaL3
set_option maxHeartbeats 1000000
set_option linter.unusedVariables false
set_option linter.unusedSimpArgs false
namespace Go.Proofs.Ytkahpdbmgmiaiaa
open Go.RowKit

theorem get_mem {b : Bk} (hw : b.Wf) {e : Nat × Int × Int} (he : e ∈ b.es) : b.get e.2.1 = some e.2.2 := by
  obtain ⟨i, hi, hie, hf⟩ := idx_of hw.ow he
  unfold Bk.get Bk.at
  rw [hf, List.getElem?_eq_getElem hi, hie]
  rfl
theorem mem_get {b : Bk} {k n : Int} (h : b.get k = some n) : ∃ e ∈ b.es, e.2.1 = k ∧ e.2.2 = n := by
  unfold Bk.get at h
  obtain ⟨e, he, rfl⟩ := Option.map_eq_some_iff.1 h
  obtain ⟨hlt, rfl⟩ := List.getElem?_eq_some_iff.1 he
  have := List.findIdx_getElem (w := hlt)
  exact ⟨_, List.getElem_mem _, eq_of_beq this, rfl⟩
theorem get_iff {b : Bk} (hw : b.Wf) {k n : Int} : b.get k = some n ↔ ∃ e ∈ b.es, e.2.1 = k ∧ e.2.2 = n :=
  ⟨mem_get, fun ⟨e, he, h1, h2⟩ => by rw [← h1, ← h2]; exact get_mem hw he⟩
theorem at_lt {b : Bk} {k : Int} : b.at k < b.es.length ↔ ∃ e ∈ b.es, e.2.1 = k := by
  unfold Bk.at
  constructor
  · intro h
    have := List.findIdx_getElem (w := h)
    exact ⟨_, List.getElem_mem _, eq_of_beq this⟩
  · rintro ⟨e, he, rfl⟩
    exact List.findIdx_lt_length_of_exists ⟨e, he, by simp⟩
theorem mem_set {b : Bk} (hw : b.Wf) (k n : Int) (j m : Int) : (∃ e ∈ (b.set k n).es, e.2.1 = j ∧ e.2.2 = m) ↔ (j = k ∧ m = n) ∨ (j ≠ k ∧ ∃ e ∈ b.es, e.2.1 = j ∧ e.2.2 = m) := by
  unfold Bk.set
  split
  · rename_i hlt
    have hk : b.es[b.at k].2.1 = k := by
      have := List.findIdx_getElem (w := hlt)
      exact eq_of_beq this
    constructor
    · rintro ⟨e, he, rfl, rfl⟩
      obtain ⟨i, hi, rfl⟩ := List.getElem_of_mem he
      have hi' : i < b.es.length := by simpa using hi
      simp only [List.getElem_modify]
      by_cases h : b.at k = i
      · subst h
        simp [hk]
      · simp only [if_neg h]
        refine .inr ⟨fun e1 => ?_, _, List.getElem_mem hi', rfl, rfl⟩
        have h1 := nodup_of hw.ow (List.getElem_mem hi') (List.getElem_mem hlt) (e1.trans hk.symm)
        have h2 : (b.es.map (·.2.1))[i]'(by simpa using hi') = (b.es.map (·.2.1))[b.at k]'(by simpa using hlt) := by simp [h1]
        exact h ((List.getElem_inj hw.ow).1 h2).symm
    · rintro (⟨rfl, rfl⟩ | ⟨hne, e, he, rfl, rfl⟩)
      · refine ⟨(b.es.modify (b.at j) fun e => (e.1, e.2.1, m))[b.at j]'(by simpa using hlt), List.getElem_mem _, ?_, ?_⟩ <;> simp [hk]
      · obtain ⟨i, hi, rfl⟩ := List.getElem_of_mem he
        have h : b.at k ≠ i := by rintro rfl; exact hne hk
        refine ⟨(b.es.modify (b.at k) fun e => (e.1, e.2.1, n))[i]'(by simpa using hi), List.getElem_mem _, ?_, ?_⟩ <;> simp [List.getElem_modify, h]
  · rename_i hlt
    have hno : ∀ e ∈ b.es, e.2.1 ≠ k := fun e he h => hlt (at_lt.2 ⟨e, he, h⟩)
    simp only [List.mem_append, List.mem_singleton]
    constructor
    · rintro ⟨e, he | rfl, rfl, rfl⟩
      · exact .inr ⟨hno e he, e, he, rfl, rfl⟩
      · exact .inl ⟨rfl, rfl⟩
    · rintro (⟨rfl, rfl⟩ | ⟨hne, e, he, rfl, rfl⟩)
      · exact ⟨_, .inr rfl, rfl, rfl⟩
      · exact ⟨e, .inl he, rfl, rfl⟩
theorem modify_map {α β : Type} {f : α → β} {g : α → α} (h : ∀ x, f (g x) = f x) (l : List α) (i : Nat) : (l.modify i g).map f = l.map f := by
  apply List.ext_getElem?
  intro j
  simp only [List.getElem?_map, List.getElem?_modify]
  cases l[j]? with
  | none => rfl
  | some x => by_cases hij : i = j <;> simp [hij, h]
theorem Bk.Wf.set {b : Bk} (hw : b.Wf) {k n : Int} (hn : 1 ≤ n ∧ n ≤ 65535) : (b.set k n).Wf := by
  unfold Bk.set
  split
  · refine ⟨(modify_map (f := fun e : Nat × Int × Int => e.1) (g := fun e => (e.1, e.2.1, n)) (fun _ => rfl) b.es (b.at k)).symm ▸ hw.st, (modify_map (f := fun e : Nat × Int × Int => e.2.1) (g := fun e => (e.1, e.2.1, n)) (fun _ => rfl) b.es (b.at k)).symm ▸ hw.ow, fun e he => ?_, fun e he => ?_⟩
    · obtain ⟨i, hi, rfl⟩ := List.getElem_of_mem he
      have hi' : i < b.es.length := by simpa using hi
      have := hw.lt _ (List.getElem_mem hi')
      simp only [List.getElem_modify]
      split <;> exact this
    · obtain ⟨i, hi, rfl⟩ := List.getElem_of_mem he
      have hi' : i < b.es.length := by simpa using hi
      have := hw.rg _ (List.getElem_mem hi')
      simp only [List.getElem_modify]
      split
      · exact hn
      · exact this
  · rename_i hlt
    have hno : ∀ e ∈ b.es, e.2.1 ≠ k := fun e he h => hlt (at_lt.2 ⟨e, he, h⟩)
    refine ⟨?_, ?_, fun e he => ?_, fun e he => ?_⟩
    · rw [List.map_append, List.nodup_append]
      refine ⟨hw.st, by simp, fun x hx y hy => ?_⟩
      obtain ⟨e, he, rfl⟩ := List.mem_map.1 hx
      simp at hy
      subst hy
      have := hw.lt e he
      omega
    · rw [List.map_append, List.nodup_append]
      refine ⟨hw.ow, by simp, fun x hx y hy => ?_⟩
      obtain ⟨e, he, rfl⟩ := List.mem_map.1 hx
      simp at hy
      subst hy
      exact hno e he
    · rcases List.mem_append.1 he with h | h
      · have := hw.lt e h
        show e.1 < b.ck + 1
        omega
      · simp at h
        subst h
        show b.ck < b.ck + 1
        omega
    · rcases List.mem_append.1 he with h | h
      · exact hw.rg e h
      · simp at h
        subst h
        exact hn
theorem del_es {b : Bk} (hw : b.Wf) (k : Int) : (b.del k).es = b.es.filter fun e => e.2.1 != k := del_filter hw.ow
theorem Bk.Wf.del {b : Bk} (hw : b.Wf) (k : Int) : (b.del k).Wf := by
  have hs : (b.del k).es.Sublist b.es := List.eraseIdx_sublist _ _
  exact ⟨hw.st.sublist (hs.map _), hw.ow.sublist (hs.map _), fun e he => hw.lt e (hs.subset he), fun e he => hw.rg e (hs.subset he)⟩
theorem mem_del {b : Bk} (hw : b.Wf) (k : Int) (j m : Int) : (∃ e ∈ (b.del k).es, e.2.1 = j ∧ e.2.2 = m) ↔ (j ≠ k ∧ ∃ e ∈ b.es, e.2.1 = j ∧ e.2.2 = m) := by
  rw [del_es hw]
  constructor
  · rintro ⟨e, he, rfl, rfl⟩
    obtain ⟨h1, h2⟩ := List.mem_filter.1 he
    exact ⟨by simpa using h2, e, h1, rfl, rfl⟩
  · rintro ⟨hne, e, he, rfl, rfl⟩
    exact ⟨e, List.mem_filter.2 ⟨he, by simpa using hne⟩, rfl, rfl⟩
theorem Bk.Wf.tick {b : Bk} (hw : b.Wf) : b.tick.Wf := by
  have hs : (b.es.filter fun e => !decide (e.2.2 ≤ 1)).Sublist b.es := List.filter_sublist
  refine ⟨?_, ?_, fun e he => ?_, fun e he => ?_⟩
  · simp only [Bk.tick, List.map_map]
    exact hw.st.sublist (hs.map _)
  · simp only [Bk.tick, List.map_map]
    exact hw.ow.sublist (hs.map _)
  · simp only [Bk.tick, List.mem_map] at he
    obtain ⟨x, hx, rfl⟩ := he
    exact hw.lt x (hs.subset hx)
  · simp only [Bk.tick, List.mem_map, List.mem_filter] at he
    obtain ⟨x, ⟨hx, hc⟩, rfl⟩ := he
    have := hw.rg x hx
    simp at hc
    simp only
    omega
theorem mem_tick {b : Bk} (j m : Int) : (∃ e ∈ b.tick.es, e.2.1 = j ∧ e.2.2 = m) ↔ (1 < m + 1 ∧ ∃ e ∈ b.es, e.2.1 = j ∧ e.2.2 = m + 1) := by
  constructor
  · rintro ⟨e, he, rfl, rfl⟩
    simp only [Bk.tick, List.mem_map, List.mem_filter] at he
    obtain ⟨x, ⟨hx, hc⟩, rfl⟩ := he
    simp at hc
    exact ⟨by simp only; omega, x, hx, rfl, by simp only; omega⟩
  · rintro ⟨h1, e, he, rfl, h2⟩
    refine ⟨(e.1, e.2.1, e.2.2 - 1), ?_, rfl, by simp only; omega⟩
    simp only [Bk.tick, List.mem_map, List.mem_filter]
    exact ⟨e, ⟨he, by simp; omega⟩, rfl⟩
theorem mem_out {b : Bk} (hw : b.Wf) (k : Int) : k ∈ b.out ↔ b.get k = some 1 := by
  rw [get_iff hw]
  simp only [Bk.out, List.mem_map, List.mem_filter, decide_eq_true_eq]
  constructor
  · rintro ⟨e, ⟨he, hc⟩, rfl⟩
    have := hw.rg e he
    exact ⟨e, he, rfl, by omega⟩
  · rintro ⟨e, he, rfl, h⟩
    exact ⟨e, ⟨he, by omega⟩, rfl⟩
theorem out_nodup {b : Bk} (hw : b.Wf) : b.out.Nodup := hw.ow.sublist (List.filter_sublist.map _)
theorem sorted_ext : ∀ {l m : List Int}, l.Pairwise (· < ·) → m.Pairwise (· < ·) → (∀ x, x ∈ l ↔ x ∈ m) → l = m
  | [], [], _, _, _ => rfl
  | [], y :: m, _, _, h => absurd ((h y).2 (by simp)) (by simp)
  | x :: l, [], _, _, h => absurd ((h x).1 (by simp)) (by simp)
  | x :: l, y :: m, hl, hm, h => by
    rw [List.pairwise_cons] at hl hm
    have e : x = y := by
      rcases List.mem_cons.1 ((h x).1 (by simp)) with e | h1
      · exact e
      · rcases List.mem_cons.1 ((h y).2 (by simp)) with e | h2
        · exact e.symm
        · have := hl.1 y h2
          have := hm.1 x h1
          omega
    subst e
    congr 1
    refine sorted_ext hl.2 hm.2 fun z => ?_
    constructor
    · intro hz
      rcases List.mem_cons.1 ((h z).1 (by simp [hz])) with e | h1
      · subst e
        have := hl.1 z hz
        omega
      · exact h1
    · intro hz
      rcases List.mem_cons.1 ((h z).2 (by simp [hz])) with e | h1
      · subst e
        have := hm.1 z hz
        omega
      · exact h1
theorem srt_strict {l : List Int} (h : l.Nodup) : (srt l).Pairwise (· < ·) := by
  have h1 := srt_sorted l
  have h2 : (srt l).Nodup := h.perm (srt_perm l).symm
  exact List.Pairwise.imp (fun ⟨a, b⟩ => by omega) (List.Pairwise.and h1 h2)
/-- The document's book shows what the program's does. -/
structure Shows (b : Bk) (L : List (Int × Int)) : Prop where
  so : L.Pairwise fun p q => p.1 < q.1
  me : ∀ k n, (k, n) ∈ L ↔ b.get k = some n
theorem key_one : ∀ {L : List (Int × Int)}, L.Pairwise (fun p q => p.1 < q.1) → ∀ {p q}, p ∈ L → q ∈ L → p.1 = q.1 → p = q
  | [], _, _, _, h, _, _ => by simp at h
  | a :: L, h, p, q, hp, hq, e => by
    rw [List.pairwise_cons] at h
    rcases List.mem_cons.1 hp with rfl | hp' <;> rcases List.mem_cons.1 hq with rfl | hq'
    · rfl
    · have := h.1 q hq'; omega
    · have := h.1 p hp'; omega
    · exact key_one h.2 hp' hq' e
theorem Shows.find {b : Bk} {L : List (Int × Int)} (h : Shows b L) (k : Int) : ((L.find? fun p => p.1 == k).map (·.2)) = b.get k := by
  cases hf : L.find? fun p => p.1 == k with
  | some p =>
    have h1 := List.mem_of_find?_eq_some hf
    have h2 := List.find?_some hf
    have h2 : p.1 = k := by simpa using h2
    exact ((h.me k p.2).1 (h2 ▸ h1)).symm
  | none =>
    cases hg : b.get k with
    | none => rfl
    | some n =>
      have h1 := (h.me k n).2 hg
      have := List.find?_eq_none.1 hf _ h1
      simp at this
theorem Shows.nil {t : Nat} : Shows ⟨t, []⟩ [] := ⟨.nil, fun k n => by simp [Bk.get]⟩
theorem Shows.drop {b : Bk} (hw : b.Wf) {L : List (Int × Int)} (h : Shows b L) (k : Int) : Shows (b.del k) (L.filter fun p => p.1 != k) :=
  ⟨h.so.sublist List.filter_sublist, fun j n => by
    rw [get_iff (hw.del k), mem_del hw, ← get_iff hw, ← h.me, List.mem_filter]
    simp [and_comm]⟩
theorem Shows.dropped {b : Bk} {L : List (Int × Int)} (h : Shows b L) (k : Int) : decide ((L.filter fun p => p.1 != k).length < L.length) = (b.get k).isSome := by
  rw [← h.find k]
  cases hf : L.find? fun p => p.1 == k with
  | some p =>
    have h1 := List.mem_of_find?_eq_some hf
    have h2 := List.find?_some hf
    simp only [Option.map_some, Option.isSome_some, decide_eq_true_eq]
    exact List.length_filter_lt_length_iff_exists.2 ⟨p, h1, by simpa using h2⟩
  | none =>
    have : (L.filter fun p => p.1 != k) = L := List.filter_eq_self.2 fun p hp => by simpa using List.find?_eq_none.1 hf p hp
    rw [this]
    simp
theorem split_sorted : ∀ {L : List (Int × Int)} {k : Int}, L.Pairwise (fun p q => p.1 < q.1) → (∀ p ∈ L, p.1 ≠ k) → (∀ p ∈ L.takeWhile fun p => decide (p.1 < k), p.1 < k) ∧ ∀ p ∈ L.dropWhile fun p => decide (p.1 < k), k < p.1
  | [], _, _, _ => by simp
  | a :: L, k, h, hk => by
    rw [List.pairwise_cons] at h
    have ih := split_sorted h.2 fun p hp => hk p (by simp [hp])
    have ha := hk a (by simp)
    rw [List.takeWhile_cons, List.dropWhile_cons]
    by_cases hc : a.1 < k
    · rw [if_pos (decide_eq_true hc), if_pos (decide_eq_true hc)]
      refine ⟨fun p hp => ?_, ih.2⟩
      rcases List.mem_cons.1 hp with rfl | hp'
      · exact hc
      · exact ih.1 p hp'
    · rw [if_neg (by simpa using hc), if_neg (by simpa using hc)]
      refine ⟨by simp, fun p hp => ?_⟩
      rcases List.mem_cons.1 hp with rfl | hp'
      · omega
      · have := h.1 p hp'; omega
/-- The document's book, when one was heard. -/
def hearL (t k : Int) (L : List (Int × Int)) : List (Int × Int) := ((L.filter fun p => p.1 != k).takeWhile fun p => decide (p.1 < k)) ++ (k, t) :: ((L.filter fun p => p.1 != k).dropWhile fun p => decide (p.1 < k))
theorem Shows.hear {b : Bk} (hw : b.Wf) {L : List (Int × Int)} (h : Shows b L) {k t : Int} (ht : 1 ≤ t ∧ t ≤ 65535) : Shows (b.set k t) (hearL t k L) := by
  have hs := h.so.sublist (List.filter_sublist (p := fun p => p.1 != k))
  have hne : ∀ p ∈ L.filter fun p => p.1 != k, p.1 ≠ k := fun p hp => by simpa using (List.mem_filter.1 hp).2
  obtain ⟨h1, h2⟩ := split_sorted hs hne
  have hm : ∀ p, p ∈ hearL t k L ↔ p = (k, t) ∨ p ∈ L.filter fun p => p.1 != k := by
    intro p
    have := List.takeWhile_append_dropWhile (p := fun p : Int × Int => decide (p.1 < k)) (l := L.filter fun p => p.1 != k)
    conv => rhs; rw [← this]
    unfold hearL
    simp only [List.mem_append, List.mem_cons]
    constructor
    · rintro (h | h | h)
      · exact .inr (.inl h)
      · exact .inl h
      · exact .inr (.inr h)
    · rintro (h | h | h)
      · exact .inr (.inl h)
      · exact .inl h
      · exact .inr (.inr h)
  refine ⟨?_, fun j n => ?_⟩
  · unfold hearL
    have hs1 := hs.sublist (List.takeWhile_sublist fun p => decide (p.1 < k))
    have hs2 := hs.sublist (List.dropWhile_sublist fun p => decide (p.1 < k))
    rw [List.pairwise_append, List.pairwise_cons]
    refine ⟨hs1, ⟨fun q hq => h2 q hq, hs2⟩, fun p hp q hq => ?_⟩
    have := h1 p hp
    rcases List.mem_cons.1 hq with rfl | hq'
    · exact this
    · have := h2 q hq'
      omega
  · rw [hm, get_iff (hw.set ht), mem_set hw, List.mem_filter, h.me, get_iff hw]
    simp
    constructor
    · rintro (⟨rfl, rfl⟩ | ⟨h, h'⟩)
      · exact .inl ⟨rfl, rfl⟩
      · exact .inr ⟨h', h⟩
    · rintro (⟨rfl, rfl⟩ | ⟨h, h'⟩)
      · exact .inl ⟨rfl, rfl⟩
      · exact .inr ⟨h', h⟩
theorem pw_map {L : List (Int × Int)} (f : Int × Int → Int × Int) (hf : ∀ p, (f p).1 = p.1) (h : L.Pairwise fun p q => p.1 < q.1) : (L.map f).Pairwise fun p q => p.1 < q.1 := by
  rw [List.pairwise_map]
  exact h.imp fun {a b} hab => by rw [hf, hf]; exact hab
theorem Shows.tick {b : Bk} (hw : b.Wf) {L : List (Int × Int)} (h : Shows b L) : Shows b.tick ((L.filter fun p => !(p.2 == 1)).map fun p => (p.1, p.2 - 1)) := by
  refine ⟨pw_map _ (fun _ => rfl) (h.so.sublist List.filter_sublist), fun j n => ?_⟩
  rw [get_iff hw.tick, mem_tick, List.mem_map]
  constructor
  · rintro ⟨p, hp, he⟩
    obtain ⟨h1, h2⟩ := List.mem_filter.1 hp
    cases he
    obtain ⟨e, e1, e2, e3⟩ := mem_get ((h.me p.1 p.2).1 h1)
    have := hw.rg e e1
    simp at h2
    exact ⟨by omega, e, e1, e2, by omega⟩
  · rintro ⟨h1, e, e1, rfl, e3⟩
    refine ⟨(e.2.1, e.2.2), List.mem_filter.2 ⟨(h.me _ _).2 (get_mem hw e1), by simp; omega⟩, ?_⟩
    simp
    omega
theorem Shows.out {b : Bk} (hw : b.Wf) {L : List (Int × Int)} (h : Shows b L) : srt b.out = (L.filter fun p => p.2 == 1).map (·.1) := by
  refine sorted_ext (srt_strict (out_nodup hw)) ?_ fun k => ?_
  · rw [List.pairwise_map]
    exact h.so.sublist List.filter_sublist
  · rw [(srt_perm b.out).mem_iff, mem_out hw, ← h.me, List.mem_map]
    constructor
    · intro hk
      exact ⟨(k, 1), List.mem_filter.2 ⟨hk, by simp⟩, rfl⟩
    · rintro ⟨p, hp, rfl⟩
      obtain ⟨h1, h2⟩ := List.mem_filter.1 hp
      have : p.2 = 1 := by simpa using h2
      rw [← this]
      exact h1
end Go.Proofs.Ytkahpdbmgmiaiaa
