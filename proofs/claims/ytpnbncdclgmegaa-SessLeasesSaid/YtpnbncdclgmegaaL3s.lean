/-
  Lists of numbers held against each other.
-/
import Derived.Test.YtpnbncdclgmegaaL3
set_option maxRecDepth 100000
set_option maxHeartbeats 1000000
set_option linter.unusedVariables false
set_option linter.unusedSimpArgs false
namespace Go.Proofs.Ytpnbncdclgmegaa
open Go.RowKit

theorem same_ok {l m : List Int} (hl : l.length ≤ 1000000) (hm : m.length ≤ 1000000) : FnOk Try.prog 46 [lN l, lN m] [] (vB (l == m)) [] := by
  refine FnOk.start t46 rfl rfl rfl ?_
  refine Tri.seq (Tri.go [] rfl trivial ?_)
  by_cases hlen : l.length = m.length
  · refine Tri.seq (Tri.tree (.a (.b 10 false) .nil) rfl ⟨by simp [hlen], ?_⟩)
    refine Tri.seq (Tri.seq (Tri.go [] rfl trivial ?_))
    refine Tri.block ?_
    refine Tri.lp (fun q ρ hl => ∃ i, q = l.length - i ∧ i ≤ l.length ∧ (l == m) = (l.drop i == m.drop i) ∧ hl = [] ∧ keepE ρ [0, 1, 5] = some [(0, lN l), (1, lN m), (5, vI .i64 i)]) l.length ⟨0, by omega, by omega, rfl, rfl, keep_of rfl rfl⟩ ?_
    rintro q ρ hl' ⟨i, rfl, hi, he, rfl, hkk⟩
    refine Tri.keep _ hkk ?_
    by_cases h : i < l.length
    · have h' : i < m.length := by omega
      have hg1 : (rI .i64 l)[i]? = some [.int .i64 l[i]] := by simp [rI, h]
      have hg2 : (rI .i64 m)[i]? = some [.int .i64 m[i]] := by simp [rI, h']
      have hd1 : l.drop i = l[i] :: l.drop (i + 1) := List.drop_eq_getElem_cons h
      have hd2 : m.drop i = m[i] :: m.drop (i + 1) := List.drop_eq_getElem_cons h'
      rw [hd1, hd2, List.cons_beq_cons] at he
      generalize l[i] = x at *
      generalize m[i] = y at *
      refine Tri.seq (Tri.go [.b 14 true] rfl ⟨decide_eq_true (by omega), trivial⟩ ?_)
      by_cases hxy : x = y
      · have hb : (x == y) = true := by simpa using hxy
        rw [hb, Bool.true_and] at he
        refine Tri.seq (Tri.block (Tri.tree (.a (.at [.int .i64 x]) (.a (.at [.int .i64 y]) (.a (.b 25 false) .nil))) rfl ⟨⟨by omega, rfl, hg1⟩, ⟨by omega, rfl, hg2⟩, by simpa using hxy, ?_⟩))
        refine Tri.let [] [] [0, 1, 5] rfl trivial ?_
        refine Tri.go [] rfl ⟨by omega, trivial⟩ (again (l.length - (i + 1)) (by omega) ⟨i + 1, rfl, by omega, he, rfl, keep_of rfl (by simp)⟩)
      · have hb : (x == y) = false := by simpa using hxy
        rw [hb, Bool.false_and] at he
        rw [he]
        exact Tri.seq (Tri.block (Tri.tree (.a (.at [.int .i64 x]) (.a (.at [.int .i64 y]) (.a (.b 25 true) .nil))) rfl ⟨⟨by omega, rfl, hg1⟩, ⟨by omega, rfl, hg2⟩, by simpa using hxy, RetQ.of [] [] rfl trivial (.refl _) rfl⟩))
    · have h1 : l.drop i = [] := List.drop_eq_nil_of_le (by omega)
      have h2 : m.drop i = [] := List.drop_eq_nil_of_le (by omega)
      rw [h1, h2] at he
      rw [he]
      refine Tri.go [.b 14 false] rfl ⟨decide_eq_false (by omega), trivial⟩ (outQ ?_)
      exact Tri.treeR .nil rfl (by simp [leP, leE, leC])
  · have : (l == m) = false := by
      simp only [beq_eq_false_iff_ne]
      rintro rfl
      exact hlen rfl
    rw [this]
    refine Tri.seq (Tri.tree (.a (.b 10 true) .nil) rfl ⟨by simp; omega, RetQ.of [] [] rfl trivial (.refl _) rfl⟩)
end Go.Proofs.Ytpnbncdclgmegaa
