/-
  The law LeaseOthers.
-/
import Derived.Test.YtkahpdbmgmiaiaaL5
set_option maxRecDepth 100000
set_option maxHeartbeats 1000000
set_option linter.unusedVariables false
set_option linter.unusedSimpArgs false
namespace Go.Proofs.Ytkahpdbmgmiaiaa
open Go.RowKit

theorem get_set {b : Bk} (hw : b.Wf) {k n : Int} (hn : 1 ≤ n ∧ n ≤ 65535) (j : Int) : (b.set k n).get j = if j = k then some n else b.get j := by
  apply Option.ext
  intro m
  rw [get_iff (hw.set hn), mem_set hw]
  split
  · rename_i h
    simp [h, eq_comm]
  · rename_i h
    rw [get_iff hw]
    simp [h]
theorem get_del {b : Bk} (hw : b.Wf) (k j : Int) : (b.del k).get j = if j = k then none else b.get j := by
  apply Option.ext
  intro m
  rw [get_iff (hw.del k), mem_del hw]
  split
  · rename_i h
    simp [h]
  · rename_i h
    rw [get_iff hw]
    simp [h]
theorem get_tick {b : Bk} (hw : b.Wf) (j : Int) : b.tick.get j = match b.get j with
    | some n => if n ≤ 1 then none else some (n - 1)
    | none => none := by
  apply Option.ext
  intro m
  rw [get_iff hw.tick, mem_tick, ← get_iff hw]
  cases b.get j with
  | none => simp
  | some n =>
    simp only [Option.some.injEq]
    split
    · simp; omega
    · simp; omega
theorem last_of {l : List Int} (hs : l.Pairwise (· ≤ ·)) (h : 0 < l.length) : ∃ y, l[l.length - 1]? = some y ∧ y ∈ l ∧ ∀ x ∈ l, x ≤ y := by
  have hne : l ≠ [] := by rintro rfl; simp at h
  refine ⟨l.getLast hne, by rw [← List.getLast?_eq_getElem?, List.getLast?_eq_some_getLast hne], List.getLast_mem hne, fun x hx => ?_⟩
  have e := List.dropLast_concat_getLast hne
  rw [← e] at hs hx
  rw [List.pairwise_append] at hs
  rcases List.mem_append.1 hx with h1 | h1
  · exact hs.2.2 x h1 _ (by simp)
  · simp at h1
    omega
def ownV : List Int := [0, 1, 2, 3, 4, 5, 6, 7, 8, 100]
theorem ownV_le {x : Int} (h : x ∈ ownV) : x = 100 ∨ (0 ≤ x ∧ x ≤ 8) := by
  simp [ownV] at h
  omega
theorem leaseOthers_ok {t : Int} (ht : b64 t) {ops : List Int} (ho : ∀ x ∈ ops, b64 x) (hm : ops.length ≤ 9223372036854775807) : FnOk Try.prog 5 [vI .i64 t, lN ops] [] (vB true) [] := by
  have haw := awake22_ok
  by_cases c1 : 60 < ops.length
  · exact FnOk.tree t5 (.a (.b 16 true) (.f [] haw .nil)) rfl rfl rfl rfl (by simp [leVs, leP, leE, leC]; omega)
  refine FnOk.start t5 rfl rfl rfl ?_
  refine Tri.seq (Tri.go [] rfl trivial ?_)
  refine Tri.seq (Tri.tree (.a (.b 16 false) (.f [] haw .nil)) rfl ⟨by simp; omega, trivial, trivial, ?_⟩)
  have hwt := within_ok (k := t) (n := 40) ht (by omega)
  have hm1 := Int.emod_nonneg t (show (40 : Int) ≠ 0 by omega)
  have hm2 := Int.emod_lt_of_pos t (show (0 : Int) < 40 by omega)
  generalize t % 40 = t1 at *
  have hN := lNew_ok (t := 1 + t1)
  have hT : 1 ≤ 1 + t1 ∧ 1 + t1 ≤ 65535 := by omega
  have hcap : capT (1 + t1) = 1 + t1 := by unfold capT; rw [if_neg (by omega), if_neg (by omega)]
  rw [hcap] at hN
  refine Tri.seq (Tri.tree (.f [] hwt .nil) rfl ⟨trivial, by simp [leVs, leP, leE, leC], by omega, ?_⟩)
  generalize 1 + t1 = T at *
  refine Tri.seq (Tri.tree (.o [] [] hN .nil) rfl ⟨trivial, ⟨leP_refl _, trivial⟩, rfl, ?_⟩)
  refine Tri.seq (Tri.go [] rfl ⟨trivial, trivial⟩ ?_)
  have hH := hear_ok (t := T) (k := 100) (b := ⟨0, []⟩)
  refine Tri.seq (Tri.tree (.o [0, 1] [] hH .nil) rfl ⟨trivial, ⟨leP_refl _, leP_refl _, trivial⟩, rfl, ?_⟩)
  refine Tri.seq (Tri.go [] rfl trivial ?_)
  refine Tri.seq (Tri.seq (Tri.go [] rfl trivial ?_))
  refine Tri.block ?_
  have hw0 : Bk.Wf (Bk.set ⟨0, []⟩ 100 T) := (wf_nil 0).set hT
  refine Tri.lp (fun q ρ hl => ∃ (i : Nat) (b : Bk) (r : Int), q = ops.length - i ∧ i ≤ ops.length ∧ b.Wf ∧ (∀ e ∈ b.es, e.2.1 ∈ ownV) ∧ (0 ≤ r ∧ r ≤ 65535) ∧ b.get 100 = (if 0 < r then some r else none) ∧
    hl = [bkO T, bkM b] ∧ keepE ρ [1, 5, 6, 7] = some [(1, lN ops), (5, vC (.ptr 0 0)), (6, vI .i64 r), (7, vI .i64 i)]) ops.length ⟨0, Bk.set ⟨0, []⟩ 100 T, T, by omega, by omega, hw0, ?_, by omega, ?_, rfl, keep_of rfl rfl⟩ ?_
  · intro e he
    rcases (mem_set (wf_nil 0) 100 T e.2.1 e.2.2).1 ⟨e, he, rfl, rfl⟩ with ⟨h1, _⟩ | ⟨_, y, hy, _⟩
    · rw [h1]; simp [ownV]
    · simp at hy
  · rw [get_set (wf_nil 0) hT, if_pos rfl, if_pos (by omega)]
  rintro q ρ hl' ⟨i, b, r, rfl, hi, hw, hV, hr, hg100, rfl, hkk⟩
  refine Tri.keep _ hkk ?_
  by_cases h : i < ops.length
  · by_cases hr0 : 0 < r
    · rw [if_pos hr0] at hg100
      have hg : (rI .i64 ops)[i]? = some [.int .i64 ops[i]] := by simp [rI, h]
      have hx := ho ops[i] (List.getElem_mem h)
      generalize ops[i] = x at *
      refine Tri.seq (Tri.go [.b 35 true, .b 38 true] rfl ⟨decide_eq_true (by omega), decide_eq_true hr0, trivial⟩ ?_)
      refine Tri.seq (Tri.block ?_)
      have hd := digit_ok (k := x) (d := 3) (n := 9) hx (by omega) (by omega)
      have hd1 := Int.emod_nonneg (x.tdiv 3) (show (9 : Int) ≠ 0 by omega)
      have hd2 := Int.emod_lt_of_pos (x.tdiv 3) (show (0 : Int) < 9 by omega)
      have hdd : dig x 3 9 = x.tdiv 3 % 9 := rfl
      refine Tri.seq (Tri.tree (.a (.at [.int .i64 x]) (.f [] hd .nil)) rfl ⟨⟨by omega, rfl, hg⟩, trivial, by simp [leVs, leP, leE, leC], ?_⟩)
      generalize hc : dig x 3 9 = c at *
      have hcV : c ∈ ownV := by
        have : c = 0 ∨ c = 1 ∨ c = 2 ∨ c = 3 ∨ c = 4 ∨ c = 5 ∨ c = 6 ∨ c = 7 ∨ c = 8 := by omega
        rcases this with rfl | rfl | rfl | rfl | rfl | rfl | rfl | rfl | rfl <;> simp [ownV]
      have hc100 : ¬ 100 = c := by omega
      have hBl : b.es.length ≤ 12 := by
        have := hw.ow.length_le_of_subset (l₂ := ownV) fun k hk => by
          obtain ⟨e, he, rfl⟩ := List.mem_map.1 hk
          exact hV e he
        simp [ownV] at this
        omega
      refine Tri.mid (fun ρ hl => ∃ (b : Bk) (r : Int), b.Wf ∧ (∀ e ∈ b.es, e.2.1 ∈ ownV) ∧ (0 ≤ r ∧ r ≤ 65535) ∧ b.get 100 = (if 0 < r then some r else none) ∧
        hl = [bkO T, bkM b] ∧ keepE ρ [1, 5, 6, 7] = some [(1, lN ops), (5, vC (.ptr 0 0)), (6, vI .i64 r), (7, vI .i64 i)]) ?_ ?_
      · have hwi := within_ok (k := x) (n := 3) hx (by omega)
        have hq1 := Int.emod_nonneg x (show (3 : Int) ≠ 0 by omega)
        have hq2 := Int.emod_lt_of_pos x (show (0 : Int) < 3 by omega)
        have h3 : x % 3 = 0 ∨ x % 3 = 1 ∨ x % 3 = 2 := by omega
        have hHe := hear_ok (t := T) (k := c) (b := b)
        have hDr := drop_ok (t := T) (k := c) (b := b)
        have hTk := tick_ok (t := T) hw hBl
        rcases h3 with h3 | h3 | h3
        · rw [h3] at hwi
          refine Tri.tree (.a (.at [.int .i64 x]) (.f [] hwi (.o [0, 1] [] hHe .nil))) rfl ⟨⟨by omega, rfl, hg⟩, trivial, by simp [leVs, leP, leE, leC], trivial, ⟨leP_refl _, leP_refl _, trivial⟩, rfl, b.set c T, r, hw.set hT, fun e he => ?_, hr, ?_, rfl, keep_of rfl (by simp)⟩
          · rcases (mem_set hw c T e.2.1 e.2.2).1 ⟨e, he, rfl, rfl⟩ with ⟨h1, _⟩ | ⟨_, y, hy, h1, _⟩
            · rw [h1]; exact hcV
            · rw [← h1]; exact hV y hy
          · rw [get_set hw hT, if_neg hc100, if_pos hr0, hg100]
        · rw [h3] at hwi
          refine Tri.tree (.a (.at [.int .i64 x]) (.f [] hwi (.o [0, 1] [] hDr .nil))) rfl ⟨⟨by omega, rfl, hg⟩, trivial, by simp [leVs, leP, leE, leC], trivial, ⟨leP_refl _, leP_refl _, trivial⟩, rfl, b.del c, r, hw.del c, fun e he => ?_, hr, ?_, rfl, keep_of rfl (by simp)⟩
          · have hsub : (b.del c).es.Sublist b.es := List.eraseIdx_sublist _ _
            exact hV e (hsub.subset he)
          · rw [get_del hw, if_neg hc100, if_pos hr0, hg100]
        · rw [h3] at hwi
          have hso := srt_sorted b.out
          have hmo : ∀ k, k ∈ srt b.out ↔ b.get k = some 1 := fun k => by rw [(srt_perm b.out).mem_iff, mem_out hw]
          have hle : ∀ k ∈ srt b.out, k = 100 ∨ k ≤ 8 := fun k hk => by
            obtain ⟨e, e1, e2, _⟩ := mem_get ((hmo k).1 hk)
            have := ownV_le (e2 ▸ hV e e1)
            omega
          have hVt : ∀ e ∈ b.tick.es, e.2.1 ∈ ownV := fun e he => by
            simp only [Bk.tick, List.mem_map, List.mem_filter] at he
            obtain ⟨y, ⟨hy, _⟩, rfl⟩ := he
            exact hV y hy
          have hgt : b.tick.get 100 = if 0 < r - 1 then some (r - 1) else none := by
            rw [get_tick hw, hg100]
            simp only
            by_cases h1 : r ≤ 1
            · rw [if_pos h1, if_neg (by omega)]
            · rw [if_neg h1, if_pos (by omega)]
          have hsl : (srt b.out).length ≤ 12 := by
            rw [srt_len]
            have := List.length_filter_le (fun e : Nat × Int × Int => decide (e.2.2 ≤ 1)) b.es
            simp only [Bk.out, List.length_map]
            omega
          have h100 := hmo 100
          generalize srt b.out = O at *
          by_cases hO : 0 < O.length
          · obtain ⟨y, y1, y2, y3⟩ := last_of hso hO
            have hgy : (rI .i64 O)[((O.length : Int) - 1).toNat]? = some [.int .i64 y] := by
              rw [show ((O.length : Int) - 1).toNat = O.length - 1 by omega]
              simp [rI, y1]
            have htold : (y == 100) = (r - 1 == 0) := by
              rw [Bool.eq_iff_iff, beq_iff_eq, beq_iff_eq]
              rw [hg100, Option.some.injEq] at h100
              constructor
              · rintro rfl
                have := h100.1 y2
                omega
              · intro h1
                have := y3 100 (h100.2 (by omega))
                rcases hle y y2 with h | h <;> omega
            refine Tri.tree (.a (.at [.int .i64 x]) (.f [] hwi (.o [0, 1] [] hTk (.a (.b 70 true) (.a (.at [.int .i64 y]) (.a (.b 82 false) .nil)))))) rfl ⟨⟨by omega, rfl, hg⟩, trivial, by simp [leVs, leP, leE, leC], trivial, ⟨leP_refl _, trivial⟩, rfl, by omega, decide_eq_true (by omega), by omega, ⟨⟨by omega, by omega⟩, rfl, hgy⟩, ?_, b.tick, r - 1, hw.tick, hVt, by omega, hgt, rfl, keep_of rfl (by simp)⟩
            simp [htold]
          · have hO0 : O.length = 0 := by omega
            have hr1 : r ≠ 1 := fun h1 => by
              rw [hg100, h1] at h100
              have := List.length_pos_of_mem (h100.2 rfl)
              omega
            refine Tri.tree (.a (.at [.int .i64 x]) (.f [] hwi (.o [0, 1] [] hTk (.a (.b 70 false) (.a (.b 82 false) .nil))))) rfl ⟨⟨by omega, rfl, hg⟩, trivial, by simp [leVs, leP, leE, leC], trivial, ⟨leP_refl _, trivial⟩, rfl, by omega, decide_eq_false (by omega), ?_, b.tick, r - 1, hw.tick, hVt, by omega, hgt, rfl, keep_of rfl (by simp)⟩
            simp
            omega
      · rintro ρ hl' ⟨b, r, hw, hV, hr, hg100, rfl, hkk⟩
        refine Tri.keep _ hkk ?_
        have hLe := left_ok (t := T) (k := 100) (b := b)
        refine Tri.seq (Tri.tree (.o [0, 1] [] hLe .nil) rfl ⟨trivial, ⟨leP_refl _, leP_refl _, trivial⟩, rfl, ?_⟩)
        have key : ((b.get 100).isSome != decide (0 < r)) = false ∧ ((b.get 100).getD 0 != r) = false := by
          rw [hg100]
          by_cases h0 : 0 < r
          · simp [h0]
          · have : r = 0 := by omega
            subst this
            simp
        refine Tri.tree (.a (.b 92 false) (.a (.b 96 false) .nil)) rfl ⟨?_, ?_, ?_⟩
        · simpa using key.1
        · simpa using key.2
        · refine Tri.let [0, 1] [] [1, 5, 6, 7] rfl trivial ?_
          exact Tri.go [] rfl ⟨by omega, trivial⟩ (again (ops.length - (i + 1)) (by omega) ⟨i + 1, b, r, rfl, by omega, hw, hV, hr, hg100, rfl, keep_of rfl (by simp)⟩)
    · refine Tri.go [.b 35 true, .b 38 false] rfl ⟨decide_eq_true (by omega), decide_eq_false hr0, trivial⟩ (outQ ?_)
      exact Tri.treeR .nil rfl (by simp [leP, leE, leC])
  · refine Tri.go [.b 35 false] rfl ⟨decide_eq_false (by omega), trivial⟩ (outQ ?_)
    exact Tri.treeR .nil rfl (by simp [leP, leE, leC])
end Go.Proofs.Ytkahpdbmgmiaiaa
