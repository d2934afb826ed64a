/-
  Where a span is: both, Covers, Meets, Where; groups: row, Splits.
-/
import Derived.Test.YthddlkhfkncgpaaGreatT9
set_option maxRecDepth 100000
set_option maxHeartbeats 1000000
set_option linter.unusedVariables false
set_option linter.unusedSimpArgs false
namespace Go.Proofs.YthddlkhfkncgpaaGreat
open Go.RowKit

def bothS (a b : Spn) : Spn := if a.1 = b.1 then (a.1, mxI a.2.1 b.2.1, mnI a.2.2 b.2.2) else (0, 0, 0)
theorem both_ok {a b : Spn} : FnOk Tryz.prog 172 [vS3 a, vS3 b] [] (vS3 (bothS a b)) [] := by
  by_cases h : a.1 = b.1
  · exact FnOk.tree t172 (.a (.b 9 false) .nil) rfl rfl rfl rfl (by simp [leP, leE, leL, leC, bothS, h, mxI, mnI])
  · exact FnOk.tree t172 (.a (.b 9 true) .nil) rfl rfl rfl rfl (by simp [leP, leE, leL, leC, bothS, h])
def eqS (a b : Spn) : Bool := a.1 == b.1 && (a.2.1 == b.2.1 && (a.2.2 == b.2.2 && true))
def coversS (l : List Spn) (s : Spn) : Bool := l.any fun x => eqS (bothS x s) s
theorem covers_ok {l : List Spn} {s : Spn} (hl : l.length ≤ 1000000000000) : FnOk Tryz.prog 125 [vSp l, vS3 s] [] (vB (coversS l s)) [] := by
  refine FnOk.start t125 rfl rfl rfl ?_
  refine Tri.seq (Tri.go [] rfl trivial ?_)
  refine Tri.mid (fun ρ hl => hl = [.box [.t (.int .i64 s.1), .t (.int .i64 s.2.1), .t (.int .i64 s.2.2)]] ∧ coversS l s = false ∧ keepE ρ [3] = some [(3, vC (.ptr 0 0))]) ?_ ?_
  · refine Tri.seq (Tri.go [] rfl trivial ?_)
    refine Tri.block ?_
    refine Tri.lp (fun q ρ hl => ∃ i, q = l.length - i ∧ i ≤ l.length ∧ coversS l s = coversS (l.drop i) s ∧ hl = [.box [.t (.int .i64 s.1), .t (.int .i64 s.2.1), .t (.int .i64 s.2.2)]] ∧ keepE ρ [3, 7, 8, 9] = some [(3, vC (.ptr 0 0)), (7, vSp l), (8, vI .i64 l.length), (9, vI .i64 i)]) l.length ⟨0, by omega, by omega, rfl, rfl, keep_of rfl rfl⟩ ?_
    rintro q ρ hl' ⟨i, rfl, hi, he, rfl, hkk⟩
    refine Tri.keep _ hkk ?_
    by_cases h : i < l.length
    · have hg := rwS_get h
      rw [List.drop_eq_getElem_cons h] at he
      generalize l[i] = x at *
      have hb := both_ok (a := x) (b := s)
      rw [show coversS (x :: l.drop (i + 1)) s = (eqS (bothS x s) s || coversS (l.drop (i + 1)) s) from rfl] at he
      refine Tri.seq (Tri.go [] rfl trivial (Tri.seq (Tri.go [.b 10 true] rfl ⟨decide_eq_true (by omega), trivial⟩ ?_)))
      refine Tri.seq (Tri.block (Tri.seq (Tri.tree (.a (.at [.int .i64 x.1, .int .i64 x.2.1, .int .i64 x.2.2]) .nil) rfl ⟨⟨by omega, rfl, hg⟩, by simp, ?_⟩)))
      cases hq : eqS (bothS x s) s with
      | true =>
        refine Tri.tree (.f [] hb (.a (.b 17 true) .nil)) rfl ⟨trivial, by simp [leVs, leP, leE, leL, leC], trivial, hq, ?_⟩
        rw [he, hq]
        exact RetQ.le [] [] rfl trivial (.refl _) (.refl _)
      | false =>
        rw [hq, Bool.false_or] at he
        refine Tri.tree (.f [] hb (.a (.b 17 false) .nil)) rfl ⟨trivial, by simp [leVs, leP, leE, leL, leC], trivial, hq, ?_⟩
        refine Tri.let [0] [] [3, 7, 8, 9] rfl trivial ?_
        exact Tri.go [] rfl ⟨by omega, trivial⟩ (again (l.length - (i + 1)) (by omega) ⟨i + 1, rfl, by omega, he, rfl, keep_of rfl (by simp)⟩)
    · have : i = l.length := by omega
      subst this
      rw [List.drop_length] at he
      exact Tri.seq (Tri.go [] rfl trivial (Tri.seq (Tri.go [.b 10 false] rfl ⟨decide_eq_false (by omega), trivial⟩ (And.intro rfl (And.intro he (keep_of rfl rfl))))))
  rintro ρ hl' ⟨rfl, he, hkk⟩
  refine Tri.keep _ hkk ?_
  rw [he]
  exact Tri.treeR .nil rfl (by simp [leP, leE, leC])
def meetsS (l : List Spn) (s : Spn) : Bool := l.any fun x => spnR (bothS x s)
theorem meets_ok {l : List Spn} {s : Spn} (hl : l.length ≤ 1000000000000) : FnOk Tryz.prog 128 [vSp l, vS3 s] [] (vB (meetsS l s)) [] := by
  refine FnOk.start t128 rfl rfl rfl ?_
  refine Tri.seq (Tri.go [] rfl trivial ?_)
  refine Tri.mid (fun ρ hl => hl = [.box [.t (.int .i64 s.1), .t (.int .i64 s.2.1), .t (.int .i64 s.2.2)]] ∧ meetsS l s = false ∧ keepE ρ [3] = some [(3, vC (.ptr 0 0))]) ?_ ?_
  · refine Tri.seq (Tri.go [] rfl trivial ?_)
    refine Tri.block ?_
    refine Tri.lp (fun q ρ hl => ∃ i, q = l.length - i ∧ i ≤ l.length ∧ meetsS l s = meetsS (l.drop i) s ∧ hl = [.box [.t (.int .i64 s.1), .t (.int .i64 s.2.1), .t (.int .i64 s.2.2)]] ∧ keepE ρ [3, 7, 8, 9] = some [(3, vC (.ptr 0 0)), (7, vSp l), (8, vI .i64 l.length), (9, vI .i64 i)]) l.length ⟨0, by omega, by omega, rfl, rfl, keep_of rfl rfl⟩ ?_
    rintro q ρ hl' ⟨i, rfl, hi, he, rfl, hkk⟩
    refine Tri.keep _ hkk ?_
    by_cases h : i < l.length
    · have hg := rwS_get h
      rw [List.drop_eq_getElem_cons h] at he
      generalize l[i] = x at *
      have hb := both_ok (a := x) (b := s)
      have hr := sRight_ok (s := bothS x s)
      rw [show meetsS (x :: l.drop (i + 1)) s = (spnR (bothS x s) || meetsS (l.drop (i + 1)) s) from rfl] at he
      refine Tri.seq (Tri.go [] rfl trivial (Tri.seq (Tri.go [.b 10 true] rfl ⟨decide_eq_true (by omega), trivial⟩ ?_)))
      refine Tri.seq (Tri.block (Tri.seq (Tri.tree (.a (.at [.int .i64 x.1, .int .i64 x.2.1, .int .i64 x.2.2]) .nil) rfl ⟨⟨by omega, rfl, hg⟩, by simp, ?_⟩)))
      cases hq : spnR (bothS x s) with
      | true =>
        rw [hq] at hr
        refine Tri.tree (.f [] hb (.f [] hr .nil)) rfl ⟨trivial, by simp [leVs, leP, leE, leL, leC], trivial, by simp [leVs, leP, leE, leL, leC], ?_⟩
        rw [he, hq]
        exact RetQ.le [] [] rfl trivial (.refl _) (.refl _)
      | false =>
        rw [hq] at hr
        rw [hq, Bool.false_or] at he
        refine Tri.tree (.f [] hb (.f [] hr .nil)) rfl ⟨trivial, by simp [leVs, leP, leE, leL, leC], trivial, by simp [leVs, leP, leE, leL, leC], ?_⟩
        refine Tri.let [0] [] [3, 7, 8, 9] rfl trivial ?_
        exact Tri.go [] rfl ⟨by omega, trivial⟩ (again (l.length - (i + 1)) (by omega) ⟨i + 1, rfl, by omega, he, rfl, keep_of rfl (by simp)⟩)
    · have : i = l.length := by omega
      subst this
      rw [List.drop_length] at he
      exact Tri.seq (Tri.go [] rfl trivial (Tri.seq (Tri.go [.b 10 false] rfl ⟨decide_eq_false (by omega), trivial⟩ (And.intro rfl (And.intro he (keep_of rfl rfl))))))
  rintro ρ hl' ⟨rfl, he, hkk⟩
  refine Tri.keep _ hkk ?_
  rw [he]
  exact Tri.treeR .nil rfl (by simp [leP, leE, leC])
def ctlS (w : Int) : Spn := (2, w, w + 8)
theorem ctl_ok {w : Int} (h : 0 ≤ w ∧ w ≤ 1000000) : FnOk Tryz.prog 126 [vI .i64 w] [] (vS3 (ctlS w)) [] :=
  FnOk.tree t126 .nil rfl rfl rfl rfl (by simp [leP, leE, leL, leC, ctlS]; omega)
def whereS (m : List Spn) (w : Int) (s : Spn) : Int := if spnR s = false then 0 else if coversS [ctlS w] s then 2 else if coversS m s then 1 else 0
theorem where_ok {m : List Spn} {w : Int} {s : Spn} (hm : m.length ≤ 1000000000000) (h : 0 ≤ w ∧ w ≤ 1000000) : FnOk Tryz.prog 68 [vSp m, vI .i64 w, vS3 s] [] (vI .i64 (whereS m w s)) [] := by
  have h1 := sRight_ok (s := s)
  have h2 := ctl_ok h
  have h3 := covers_ok (l := [ctlS w]) (s := s) (by simp)
  have h4 := covers_ok (l := m) (s := s) hm
  unfold whereS
  cases e1 : spnR s with
  | false =>
    rw [e1] at h1
    exact FnOk.tree t68 (.f [] h1 .nil) rfl rfl rfl rfl (by simp [leVs, leP, leE, leL, leC])
  | true =>
    rw [e1] at h1
    rw [if_neg (by simp)]
    cases e2 : coversS [ctlS w] s with
    | true =>
      rw [e2] at h3
      exact FnOk.tree t68 (.f [] h1 (.f [] h2 (.f [] h3 .nil))) rfl rfl rfl rfl (by simp [leVs, leP, leE, leL, leC, rwS])
    | false =>
      rw [e2] at h3
      cases e3 : coversS m s with
      | true =>
        rw [e3] at h4
        exact FnOk.tree t68 (.f [] h1 (.f [] h2 (.f [] h3 (.f [] h4 .nil)))) rfl rfl rfl rfl (by simp [leVs, leP, leE, leL, leC, rwS])
      | false =>
        rw [e3] at h4
        exact FnOk.tree t68 (.f [] h1 (.f [] h2 (.f [] h3 (.f [] h4 .nil)))) rfl rfl rfl rfl (by simp [leVs, leP, leE, leL, leC, rwS])
/-- A group: table, first address, how many. -/
def rowG (g : Spn) : Spn := (g.1, g.2.1, g.2.1 + g.2.2)
def GrB (g : Spn) : Prop := -1000000000000 ≤ g.2.1 ∧ g.2.1 ≤ 1000000000000 ∧ -1000000000000 ≤ g.2.2 ∧ g.2.2 ≤ 1000000000000
theorem row_ok {g : Spn} (h : GrB g) : FnOk Tryz.prog 127 [vS3 g] [] (vS3 (rowG g)) [] :=
  FnOk.tree t127 .nil rfl rfl rfl rfl (by obtain ⟨h1, h2, h3, h4⟩ := h; simp [leP, leE, leL, leC, rowG]; omega)
def splits1 (g s : Spn) : Bool := meetsS [rowG g] s && !coversS [s] (rowG g)
def splitsS (l : List Spn) (s : Spn) : Bool := l.any fun g => splits1 g s
theorem splits_ok {l : List Spn} {s : Spn} (hl : l.length ≤ 1000000000000) (hg : ∀ g ∈ l, GrB g) : FnOk Tryz.prog 70 [vSp l, vS3 s] [] (vB (splitsS l s)) [] := by
  refine FnOk.start t70 rfl rfl rfl ?_
  refine Tri.seq (Tri.go [] rfl trivial ?_)
  refine Tri.mid (fun ρ hl => hl = [.box [.t (.int .i64 s.1), .t (.int .i64 s.2.1), .t (.int .i64 s.2.2)]] ∧ splitsS l s = false ∧ keepE ρ [3] = some [(3, vC (.ptr 0 0))]) ?_ ?_
  · refine Tri.seq (Tri.go [] rfl trivial ?_)
    refine Tri.block ?_
    refine Tri.lp (fun q ρ hl => ∃ i, q = l.length - i ∧ i ≤ l.length ∧ splitsS l s = splitsS (l.drop i) s ∧ hl = [.box [.t (.int .i64 s.1), .t (.int .i64 s.2.1), .t (.int .i64 s.2.2)]] ∧ keepE ρ [3, 8, 9, 10] = some [(3, vC (.ptr 0 0)), (8, vSp l), (9, vI .i64 l.length), (10, vI .i64 i)]) l.length ⟨0, by omega, by omega, rfl, rfl, keep_of rfl rfl⟩ ?_
    rintro q ρ hl' ⟨i, rfl, hi, he, rfl, hkk⟩
    refine Tri.keep _ hkk ?_
    by_cases h : i < l.length
    · have hgt := rwS_get h
      have hgb := hg _ (List.getElem_mem h)
      rw [List.drop_eq_getElem_cons h] at he
      generalize l[i] = x at *
      have hr := row_ok hgb
      have hm := meets_ok (l := [rowG x]) (s := s) (by simp)
      have hc := covers_ok (l := [s]) (s := rowG x) (by simp)
      rw [show splitsS (x :: l.drop (i + 1)) s = (splits1 x s || splitsS (l.drop (i + 1)) s) from rfl, splits1] at he
      refine Tri.seq (Tri.go [] rfl trivial (Tri.seq (Tri.go [.b 11 true] rfl ⟨decide_eq_true (by omega), trivial⟩ ?_)))
      refine Tri.seq (Tri.block (Tri.seq (Tri.tree (.a (.at [.int .i64 x.1, .int .i64 x.2.1, .int .i64 x.2.2]) .nil) rfl ⟨⟨by omega, rfl, hgt⟩, by simp, ?_⟩)))
      refine Tri.seq (Tri.tree (.f [] hr .nil) rfl ⟨trivial, by simp [leVs, leP, leE, leL, leC], by simp, ?_⟩)
      cases hq : meetsS [rowG x] s with
      | false =>
        rw [hq] at hm he
        simp only [Bool.false_and, Bool.false_or] at he
        refine Tri.tree (.f [] hm .nil) rfl ⟨trivial, by simp [leVs, leP, leE, leL, leC, rwS], ?_⟩
        refine Tri.let [0] [] [3, 8, 9, 10] rfl trivial ?_
        exact Tri.go [] rfl ⟨by omega, trivial⟩ (again (l.length - (i + 1)) (by omega) ⟨i + 1, rfl, by omega, he, rfl, keep_of rfl (by simp)⟩)
      | true =>
        rw [hq] at hm he
        cases hcq : coversS [s] (rowG x) with
        | true =>
          rw [hcq] at hc he
          simp only [Bool.not_true, Bool.and_false, Bool.false_or] at he
          refine Tri.tree (.f [] hm (.a (.at [.int .i64 (rowG x).1, .int .i64 (rowG x).2.1, .int .i64 (rowG x).2.2]) (.f [] hc .nil))) rfl ?_
          refine ⟨trivial, by simp [leVs, leP, leE, leL, leC, rwS], by simp, by simp, by simp, trivial, by simp [leVs, leP, leE, leL, leC, rwS], ?_⟩
          refine Tri.let [0] [] [3, 8, 9, 10] rfl trivial ?_
          exact Tri.go [] rfl ⟨by omega, trivial⟩ (again (l.length - (i + 1)) (by omega) ⟨i + 1, rfl, by omega, he, rfl, keep_of rfl (by simp)⟩)
        | false =>
          rw [hcq] at hc he
          refine Tri.tree (.f [] hm (.a (.at [.int .i64 (rowG x).1, .int .i64 (rowG x).2.1, .int .i64 (rowG x).2.2]) (.f [] hc .nil))) rfl ?_
          refine ⟨trivial, by simp [leVs, leP, leE, leL, leC, rwS], by simp, by simp, by simp, trivial, by simp [leVs, leP, leE, leL, leC, rwS], ?_⟩
          rw [he]
          exact RetQ.le [] [] rfl trivial (.refl _) (.refl _)
    · have : i = l.length := by omega
      subst this
      rw [List.drop_length] at he
      exact Tri.seq (Tri.go [] rfl trivial (Tri.seq (Tri.go [.b 11 false] rfl ⟨decide_eq_false (by omega), trivial⟩ (And.intro rfl (And.intro he (keep_of rfl rfl))))))
  rintro ρ hl' ⟨rfl, he, hkk⟩
  refine Tri.keep _ hkk ?_
  rw [he]
  exact Tri.treeR .nil rfl (by simp [leP, leE, leC])
end Go.Proofs.YthddlkhfkncgpaaGreat
