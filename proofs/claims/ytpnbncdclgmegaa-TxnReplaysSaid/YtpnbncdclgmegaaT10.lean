/-
  Addresses that have no cell (Rest); what a view sees (Look).
-/
import Derived.Test.YtpnbncdclgmegaaT9
set_option maxRecDepth 100000
set_option maxHeartbeats 1000000
set_option linter.unusedVariables false
set_option linter.unusedSimpArgs false
namespace Go.Proofs.Ytpnbncdclgmegaa
open Go.RowKit

/-- What is left of a span, from an address on, the cells being looked at from a place on. -/
def restF (l : List Cel) (t to : Int) : Nat → Nat → Int → List Spn
  | 0, _, fr => if fr < to then [(t, fr, to)] else []
  | f + 1, i, fr => match l[i]? with
    | some c => if c.1 == t && decide (c.2.1 < to) then (if fr < c.2.1 then [(t, fr, c.2.1)] else []) ++ restF l t to f (i + 1) (c.2.1 + 1) else (if fr < to then [(t, fr, to)] else [])
    | none => if fr < to then [(t, fr, to)] else []
def restL (l : List Cel) (s : Spn) : List Spn := restF l s.1 s.2.2 (l.length - findL l s.1 s.2.1) (findL l s.1 s.2.1) s.2.1
abbrev bxS (s : Spn) : Ob := .box [.t (.int .i64 s.1), .t (.int .i64 s.2.1), .t (.int .i64 s.2.2)]
theorem rest_ok {l : List Cel} (hl : l.length ≤ 100000000) (hc : ∀ c ∈ l, -1000000000 ≤ c.2.1 ∧ c.2.1 ≤ 1000000000) {s : Spn} : FnOk Try.prog 71 [vCl l, vS3 s] [] (vSp (restL l s)) [] := by
  obtain ⟨t, fr0, to⟩ := s
  have hf := bfind_ok (l := l) (by omega) (t := t) (a := fr0)
  have hfl := findL_le l t fr0
  refine FnOk.start t71 rfl rfl rfl ?_
  refine Tri.seq (Tri.go [] rfl trivial ?_)
  refine Tri.seq (Tri.go [] rfl trivial ?_)
  refine Tri.own 5 3 (by omega) rfl ?_
  refine Tri.seq (Tri.go [] rfl trivial ?_)
  refine Tri.seq (Tri.tree (.f [] hf .nil) rfl ⟨trivial, by simp [leVs, leP, leE, leL, leC], ?_⟩)
  have hspec : restL l (t, fr0, to) = restF l t to (l.length - findL l t fr0) (findL l t fr0) fr0 := rfl
  rw [hspec]
  generalize findL l t fr0 = j0 at *
  refine Tri.mid (fun ρ hl => ∃ acc fr, restF l t to (l.length - j0) j0 fr0 = acc ++ (if fr < to then [(t, fr, to)] else []) ∧ acc.length ≤ l.length ∧ hl = [bxS (t, fr0, to), .arr 3 (rwS acc)] ∧
    keepE ρ [3, 5, 6] = some [(3, vC (.ptr 0 0)), (5, vC (.sl 1 0 acc.length)), (6, vI .i64 fr)]) ?_ ?_
  · refine Tri.block ?_
    refine Tri.lp (fun z ρ hl => ∃ acc fr i, z = l.length - i ∧ i ≤ l.length ∧ acc.length ≤ i ∧ restF l t to (l.length - j0) j0 fr0 = acc ++ restF l t to (l.length - i) i fr ∧ hl = [bxS (t, fr0, to), .arr 3 (rwS acc)] ∧
      keepE ρ [0, 3, 5, 6, 7] = some [(0, vCl l), (3, vC (.ptr 0 0)), (5, vC (.sl 1 0 acc.length)), (6, vI .i64 fr), (7, vI .i64 i)]) (l.length - j0) ⟨[], fr0, j0, rfl, hfl, by simp, rfl, rfl, keep_of rfl rfl⟩ ?_
    rintro z ρ hl' ⟨acc, fr, i, rfl, hi, hac, he, rfl, hkk⟩
    refine Tri.keep _ hkk ?_
    by_cases h : i < l.length
    · have hg := rwC_get h
      have hx := hc _ (List.getElem_mem h)
      rw [show l.length - i = (l.length - (i + 1)) + 1 by omega, restF, List.getElem?_eq_getElem h] at he
      simp only at he
      generalize l[i] = c at *
      by_cases c1 : c.1 = t
      · by_cases c2 : c.2.1 < to
        · rw [if_pos (by simp [c1, c2])] at he
          refine Tri.seq (Tri.tree (.a (.b 26 true) (.a (.at [.int .i64 c.1, .int .i64 c.2.1, .int .u16 c.2.2]) (.a (.b 37 true) (.a (.at [.int .i64 c.1, .int .i64 c.2.1, .int .u16 c.2.2]) (.a (.b 47 true) .nil))))) rfl ⟨decide_eq_true (by omega), ⟨by omega, rfl, hg⟩, by simpa using c1, ⟨by omega, rfl, hg⟩, decide_eq_true c2, ?_⟩)
          refine Tri.seq (Tri.block (Tri.seq (Tri.tree (.a (.at [.int .i64 c.1, .int .i64 c.2.1, .int .u16 c.2.2]) .nil) rfl ⟨⟨by omega, rfl, hg⟩, ?_⟩)))
          by_cases c3 : fr < c.2.1
          · rw [if_pos c3] at he
            have hrow : (List.replicate 1 [D.int .i64 0, D.int .i64 0, D.int .i64 0]).set 0 [D.int .i64 t, D.int .i64 fr, D.int .i64 c.2.1] = rwS [(t, fr, c.2.1)] := rfl
            have happ : rwS acc ++ List.take 1 ((List.replicate 1 [D.int .i64 0, D.int .i64 0, D.int .i64 0]).set 0 [D.int .i64 t, D.int .i64 fr, D.int .i64 c.2.1]) = rwS (acc ++ [(t, fr, c.2.1)]) := by rw [hrow, ← rwS_app]; rfl
            refine Tri.seq (Tri.tree (.a (.b 58 true) .nil) rfl ⟨decide_eq_true c3, ⟨⟨rfl, by simp⟩, trivial⟩, ⟨.inr rfl, rfl, by simp, by simp, by omega, by omega⟩, ?_⟩)
            simp only [happ]
            refine Tri.let [0, 2] [] [0, 3, 5, 7, 9] rfl trivial ?_
            refine Tri.go [] rfl ⟨by omega, trivial⟩ ?_
            refine Tri.go [] rfl ⟨by omega, trivial⟩ (again (l.length - (i + 1)) (by omega) ⟨acc ++ [(t, fr, c.2.1)], c.2.1 + 1, i + 1, rfl, by omega, by simp; omega, by rw [he]; simp, rfl, keep_of rfl (by simp)⟩)
          · rw [if_neg c3] at he
            refine Tri.seq (Tri.tree (.a (.b 58 false) .nil) rfl ⟨decide_eq_false c3, ?_⟩)
            refine Tri.go [] rfl ⟨by omega, trivial⟩ ?_
            refine Tri.go [] rfl ⟨by omega, trivial⟩ (again (l.length - (i + 1)) (by omega) ⟨acc, c.2.1 + 1, i + 1, rfl, by omega, by omega, by rw [he]; simp, rfl, keep_of rfl (by simp)⟩)
        · rw [if_neg (by simp [c2])] at he
          refine Tri.seq (Tri.tree (.a (.b 26 true) (.a (.at [.int .i64 c.1, .int .i64 c.2.1, .int .u16 c.2.2]) (.a (.b 37 true) (.a (.at [.int .i64 c.1, .int .i64 c.2.1, .int .u16 c.2.2]) (.a (.b 47 false) .nil))))) rfl ⟨decide_eq_true (by omega), ⟨by omega, rfl, hg⟩, by simpa using c1, ⟨by omega, rfl, hg⟩, decide_eq_false c2, ?_⟩)
          exact ⟨acc, fr, he, by omega, rfl, keep_of rfl rfl⟩
      · rw [if_neg (by simp [c1])] at he
        refine Tri.seq (Tri.tree (.a (.b 26 true) (.a (.at [.int .i64 c.1, .int .i64 c.2.1, .int .u16 c.2.2]) (.a (.b 37 false) .nil))) rfl ⟨decide_eq_true (by omega), ⟨by omega, rfl, hg⟩, by simpa using c1, ?_⟩)
        exact ⟨acc, fr, he, by omega, rfl, keep_of rfl rfl⟩
    · have he : restF l t to (l.length - j0) j0 fr0 = acc ++ (if fr < to then [(t, fr, to)] else []) := by
        rw [he, show l.length - i = 0 by omega]
        rfl
      refine Tri.seq (Tri.tree (.a (.b 26 false) .nil) rfl ⟨decide_eq_false (by omega), ?_⟩)
      exact ⟨acc, fr, he, by omega, rfl, keep_of rfl rfl⟩
  rintro ρ hl' ⟨acc, fr, he, hac, rfl, hkk⟩
  refine Tri.keep _ hkk ?_
  rw [he]
  by_cases h : fr < to
  · rw [if_pos h]
    have hrow : (List.replicate 1 [D.int .i64 0, D.int .i64 0, D.int .i64 0]).set 0 [D.int .i64 t, D.int .i64 fr, D.int .i64 to] = rwS [(t, fr, to)] := rfl
    have happ : rwS acc ++ List.take 1 ((List.replicate 1 [D.int .i64 0, D.int .i64 0, D.int .i64 0]).set 0 [D.int .i64 t, D.int .i64 fr, D.int .i64 to]) = rwS (acc ++ [(t, fr, to)]) := by rw [hrow, ← rwS_app]; rfl
    refine Tri.seq (Tri.tree (.a (.b 72 true) .nil) rfl ⟨decide_eq_true h, ⟨⟨rfl, by simp⟩, trivial⟩, ⟨.inr rfl, rfl, by simp, by simp, by omega, by omega⟩, ?_⟩)
    simp only [happ]
    refine Tri.treeR (.a (.call [] [2] .u []) .nil) rfl ?_
    simp [leP, leE, leC]
    exact .nil
  · rw [if_neg h, List.append_nil]
    refine Tri.seq (Tri.tree (.a (.b 72 false) .nil) rfl ⟨decide_eq_false h, ?_⟩)
    refine Tri.treeR (.a (.call [] [1] .u []) .nil) rfl ?_
    simp [leP, leE, leC]
    exact .nil
end Go.Proofs.Ytpnbncdclgmegaa
