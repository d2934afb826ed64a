/-
  Configurations and sessions, made; requests by two numbers.
  Sessions over a new store; requests by two numbers; the chapter's examples.
  What stands behind any request; the chapter's examples.
-/
import Derived.Test.YthddlkhfkncgpaaGreatE7
set_option maxRecDepth 100000
set_option maxHeartbeats 2000000
set_option linter.unusedVariables false
set_option linter.unusedSimpArgs false
namespace Go.Proofs.YthddlkhfkncgpaaGreat
open Go.RowKit

theorem atK_ok {ks : List Int} {i : Nat} (hi : i ≤ 1000000) (hl : ks.length ≤ 9223372036854775807) : FnOk Tryz.prog 77 [vD (lI .i64 ks), vI .i64 i] [] (vI .i64 (ks.getD i 0)) [] := by
  by_cases h : i < ks.length
  · have hg := rI_get (k := .i64) h
    exact FnOk.tree t77 (.a (.b 7 false) (.a (.b 12 false) (.a (.at [.int .i64 (ks.getD i 0)]) .nil))) rfl rfl rfl rfl ⟨decide_eq_false (by omega), decide_eq_false (by omega), ⟨by omega, rfl, hg⟩, by simp [leP, leE, leC]⟩
  · have e : ks.getD i 0 = 0 := by rw [List.getD_eq_getElem?_getD, List.getElem?_eq_none (by omega)]; rfl
    rw [e]
    exact FnOk.tree t77 (.a (.b 7 false) (.a (.b 12 true) .nil)) rfl rfl rfl rfl ⟨decide_eq_false (by omega), decide_eq_true (by omega), by simp [leP, leE, leC]⟩
def mapU : List Spn := [(0, 0, 1000), (1, 0, 1000), (2, 0, 1000), (3, 0, 1000)]
def objU : List Obj := [(0, ⟨#[98, 117, 115, 98, 97, 114]⟩), (1, ⟨#[98, 49]⟩), (2, ⟨#[49, 46, 48]⟩)]
def usualC : Cf := ⟨mapU, [], 60000, 100, 32, 8, 10000, 100, 500, 1024, 1024, 0, objU⟩
abbrev uZ : List C := [.t .nil, .t .nil, .t (.int .i64 0), .t (.int .i64 0), .t (.int .i64 0), .t (.int .i64 0), .t (.int .i64 0), .t (.int .i64 0), .t (.int .i64 0), .t (.int .i64 0), .t (.int .i64 0), .t (.int .u64 0), .t .nil]
abbrev uB (m : C) : List C := [m, .t .nil, .t (.int .i64 60000), .t (.int .i64 100), .t (.int .i64 32), .t (.int .i64 8), .t (.int .i64 10000), .t (.int .i64 100), .t (.int .i64 500), .t (.int .i64 1024), .t (.int .i64 1024), .t (.int .u64 0), .t .nil]
theorem usual_ok : FnOk Tryz.prog 76 [] [] usualC.v [] := by
  refine FnOk.start t76 rfl rfl rfl ?_
  refine Tri.seq (Tri.go [] rfl trivial ?_)
  refine Tri.seq (Tri.go [] rfl trivial ?_)
  refine Tri.mid (fun ρ hl => hl = [.box uZ, .box (uB (.sl 2 0 4)), .arr 3 (rwS mapU)] ∧ keepE ρ [0, 1] = some [(0, vC (.ptr 0 0)), (1, vC (.ptr 1 0))]) ?_ ?_
  · refine Tri.seq (Tri.go [] rfl trivial ?_)
    refine Tri.block ?_
    refine Tri.lp (fun q ρ hl => ∃ i : Nat, q = 4 - i ∧ i ≤ 4 ∧ ((i = 0 ∧ hl = [.box uZ, .box (uB (.t .nil))]) ∨ (0 < i ∧ hl = [.box uZ, .box (uB (.sl 2 0 i)), .arr 3 (rwS (mapU.take i))])) ∧
      keepE ρ [0, 1, 2] = some [(0, vC (.ptr 0 0)), (1, vC (.ptr 1 0)), (2, vI .i64 i)]) 4 ⟨0, by omega, by omega, .inl ⟨rfl, rfl⟩, keep_of rfl rfl⟩ ?_
    rintro q ρ hl' ⟨i, rfl, hi, hh, hkk⟩
    refine Tri.keep _ hkk ?_
    by_cases h2 : i < 4
    · have h4 : i = 0 ∨ i = 1 ∨ i = 2 ∨ i = 3 := by omega
      rcases hh with ⟨rfl, rfl⟩ | ⟨hp, rfl⟩
      · refine Tri.seq (Tri.go [.b 5 true] rfl ⟨decide_eq_true (by omega), trivial⟩ ?_)
        refine Tri.seq (Tri.block (Tri.tree .nil rfl ⟨⟨⟨rfl, by simp⟩, trivial⟩, ⟨.inr rfl, by simp, by simp, by simp⟩, ?_⟩))
        exact Tri.go [] rfl ⟨by omega, trivial⟩ (again 3 (by omega) ⟨1, rfl, by omega, .inr ⟨by omega, rfl⟩, keep_of rfl (by simp)⟩)
      · refine Tri.seq (Tri.go [.b 5 true] rfl ⟨decide_eq_true (by omega), trivial⟩ ?_)
        refine Tri.seq (Tri.block (Tri.tree .nil rfl ⟨⟨⟨rfl, by simp⟩, trivial⟩, ⟨.inr rfl, rfl, by simp [mapU]; omega, by simp, by omega, by omega⟩, ?_⟩))
        refine Tri.let [0, 1, 3] [] [0, 1, 2] rfl trivial ?_
        refine Tri.go [] rfl ⟨by omega, trivial⟩ (again (4 - (i + 1)) (by omega) ⟨i + 1, by omega, by omega, .inr ⟨by omega, ?_⟩, keep_of rfl (by simp)⟩)
        rcases h4 with rfl | rfl | rfl | rfl
        · omega
        all_goals simp [mapU, rwS]
    · have : i = 4 := by omega
      subst this
      rcases hh with ⟨hz, rfl⟩ | ⟨hp, rfl⟩
      · omega
      · exact Tri.go [.b 5 false] rfl ⟨decide_eq_false (by omega), trivial⟩ (outQ ⟨rfl, keep_of rfl rfl⟩)
  rintro ρ hl' ⟨rfl, hkk⟩
  refine Tri.keep _ hkk ?_
  refine Tri.seq (Tri.tree .nil rfl ⟨⟨⟨rfl, by simp⟩, ⟨rfl, by simp⟩, ⟨rfl, by simp⟩, trivial⟩, ?_⟩)
  refine Tri.treeR (.a (.call [] [2] .u []) .nil) rfl ?_
  refine ⟨⟨by simp [mapU], trivial, trivial⟩, .nil, ?_⟩
  simp [leP, leE, leL, leC, usualC, mapU, objU, rwS, oRows]
def mapF : List Spn := [(0, 0, 40), (1, 0, 40), (2, 0, 20), (2, 24, 40), (3, 0, 40)]
def grpF : List Spn := [(2, 4, 2), (2, 8, 4), (3, 4, 4)]
def confC (ks : List Int) : Cf :=
  ⟨mapF, grpF, 100, 1 + ks.getD 0 0 % 12, 1 + dig (ks.getD 2 0) 240 6, dig (ks.getD 0 0) 12 5,
   if ks.getD 2 0 % 4 = 0 then dig (ks.getD 2 0) 4 60 else 2000,
   if 0 < dig (ks.getD 1 0) 120 3 then 50 else 1 + ks.getD 1 0 % 6,
   if 0 < dig (ks.getD 1 0) 120 3 then 500 else 1 + dig (ks.getD 1 0) 6 20, 1024, 1024,
   if dig (ks.getD 3 0) 9 6 = 0 then 18446744073709551615 - ks.getD 3 0 % 9 else ks.getD 3 0 % 9, objU⟩
theorem conf_ok {ks : List Int} (hk : ∀ x ∈ ks, b64 x) (hl : ks.length ≤ 9223372036854775807) : FnOk Tryz.prog 28 [vD (lI .i64 ks)] [] (confC ks).v [] := by
  have hb : ∀ i : Nat, b64 (ks.getD i 0) := fun i => by
    rw [List.getD_eq_getElem?_getD]
    cases h : ks[i]? with
    | none => simp [b64]
    | some x => exact hk x (List.mem_of_getElem? h)
  have hu := usual_ok
  have a0 := atK_ok (ks := ks) (i := 0) (by omega) hl
  have a1 := atK_ok (ks := ks) (i := 1) (by omega) hl
  have a2 := atK_ok (ks := ks) (i := 2) (by omega) hl
  have a3 := atK_ok (ks := ks) (i := 3) (by omega) hl
  have b0 := hb 0
  have b1 := hb 1
  have b2 := hb 2
  have b3 := hb 3
  unfold confC
  generalize ks.getD 0 0 = k0 at *
  generalize ks.getD 1 0 = k1 at *
  generalize ks.getD 2 0 = k2 at *
  generalize ks.getD 3 0 = k3 at *
  have w0 := within_ok (k := k0) (n := 12) b0 (by omega)
  have d0 := digit_ok (k := k0) (d := 12) (n := 5) b0 (by omega) (by omega)
  have w1 := within_ok (k := k1) (n := 6) b1 (by omega)
  have d1 := digit_ok (k := k1) (d := 6) (n := 20) b1 (by omega) (by omega)
  have e1 := digit_ok (k := k1) (d := 120) (n := 3) b1 (by omega) (by omega)
  have w2 := within_ok (k := k2) (n := 4) b2 (by omega)
  have d2 := digit_ok (k := k2) (d := 4) (n := 60) b2 (by omega) (by omega)
  have e2 := digit_ok (k := k2) (d := 240) (n := 6) b2 (by omega) (by omega)
  have w3 := within_ok (k := k3) (n := 9) b3 (by omega)
  have d3 := digit_ok (k := k3) (d := 9) (n := 6) b3 (by omega) (by omega)
  have r1 := digR k1 6 (n := 20) (by omega)
  have r2 := digR k2 240 (n := 6) (by omega)
  have q0 : 0 ≤ k0 % 12 ∧ k0 % 12 < 12 := ⟨by omega, by omega⟩
  have q1 : 0 ≤ k1 % 6 ∧ k1 % 6 < 6 := ⟨by omega, by omega⟩
  have q3 : 0 ≤ k3 % 9 ∧ k3 % 9 < 9 := ⟨by omega, by omega⟩
  generalize dig k1 6 20 = g1 at *
  generalize dig k1 120 3 = f1 at *
  generalize dig k2 4 60 = g2 at *
  generalize dig k2 240 6 = f2 at *
  generalize dig k3 9 6 = f3 at *
  generalize k2 % 4 = m2 at *
  have u3 : IntKind.u64.wrap (k3 % 9) = k3 % 9 := by rw [wu64]; omega
  by_cases h1 : 0 < f1 <;> by_cases h2 : m2 = 0 <;> by_cases h3 : f3 = 0
  · refine FnOk.tree t28 (.f [] hu (.f [] a0 (.f [] w0 (.f [] a0 (.f [] d0 (.f [] a1 (.f [] w1 (.f [] a1 (.f [] d1 (.f [] a1 (.f [] e1 (.a (.b 41 true) (.f [] a2 (.f [] w2 (.a (.b 47 true) (.f [] a2 (.f [] d2 (.f [] a2 (.f [] e2 (.f [] a3 (.f [] w3 (.f [] a3 (.f [] d3 (.a (.b 65 true) .nil)))))))))))))))))))))))) rfl rfl rfl rfl ?_
    repeat' (with_reducible apply And.intro)
    all_goals first | trivial | rfl | exact decide_eq_true h1 | exact decide_eq_false h1 | exact beq_iff_eq.2 h2 | exact beq_eq_false_iff_ne.2 h2 | exact beq_iff_eq.2 h3 | exact beq_eq_false_iff_ne.2 h3 | (simp [leVs, leP, leE, leL, leC]; done) | omega | (simp [leP, leE, leL, leC, mapF, grpF, objU, usualC, rwS, oRows, h1, h2, h3, u3, wu64]; done) | (simp [leP, leE, leL, leC, mapF, grpF, objU, usualC, rwS, oRows, h1, h2, h3, u3, wu64]; omega)
  · refine FnOk.tree t28 (.f [] hu (.f [] a0 (.f [] w0 (.f [] a0 (.f [] d0 (.f [] a1 (.f [] w1 (.f [] a1 (.f [] d1 (.f [] a1 (.f [] e1 (.a (.b 41 true) (.f [] a2 (.f [] w2 (.a (.b 47 true) (.f [] a2 (.f [] d2 (.f [] a2 (.f [] e2 (.f [] a3 (.f [] w3 (.f [] a3 (.f [] d3 (.a (.b 65 false) .nil)))))))))))))))))))))))) rfl rfl rfl rfl ?_
    repeat' (with_reducible apply And.intro)
    all_goals first | trivial | rfl | exact decide_eq_true h1 | exact decide_eq_false h1 | exact beq_iff_eq.2 h2 | exact beq_eq_false_iff_ne.2 h2 | exact beq_iff_eq.2 h3 | exact beq_eq_false_iff_ne.2 h3 | (simp [leVs, leP, leE, leL, leC]; done) | omega | (simp [leP, leE, leL, leC, mapF, grpF, objU, usualC, rwS, oRows, h1, h2, h3, u3, wu64]; done) | (simp [leP, leE, leL, leC, mapF, grpF, objU, usualC, rwS, oRows, h1, h2, h3, u3, wu64]; omega)
  · refine FnOk.tree t28 (.f [] hu (.f [] a0 (.f [] w0 (.f [] a0 (.f [] d0 (.f [] a1 (.f [] w1 (.f [] a1 (.f [] d1 (.f [] a1 (.f [] e1 (.a (.b 41 true) (.f [] a2 (.f [] w2 (.a (.b 47 false) (.f [] a2 (.f [] e2 (.f [] a3 (.f [] w3 (.f [] a3 (.f [] d3 (.a (.b 65 true) .nil)))))))))))))))))))))) rfl rfl rfl rfl ?_
    repeat' (with_reducible apply And.intro)
    all_goals first | trivial | rfl | exact decide_eq_true h1 | exact decide_eq_false h1 | exact beq_iff_eq.2 h2 | exact beq_eq_false_iff_ne.2 h2 | exact beq_iff_eq.2 h3 | exact beq_eq_false_iff_ne.2 h3 | (simp [leVs, leP, leE, leL, leC]; done) | omega | (simp [leP, leE, leL, leC, mapF, grpF, objU, usualC, rwS, oRows, h1, h2, h3, u3, wu64]; done) | (simp [leP, leE, leL, leC, mapF, grpF, objU, usualC, rwS, oRows, h1, h2, h3, u3, wu64]; omega)
  · refine FnOk.tree t28 (.f [] hu (.f [] a0 (.f [] w0 (.f [] a0 (.f [] d0 (.f [] a1 (.f [] w1 (.f [] a1 (.f [] d1 (.f [] a1 (.f [] e1 (.a (.b 41 true) (.f [] a2 (.f [] w2 (.a (.b 47 false) (.f [] a2 (.f [] e2 (.f [] a3 (.f [] w3 (.f [] a3 (.f [] d3 (.a (.b 65 false) .nil)))))))))))))))))))))) rfl rfl rfl rfl ?_
    repeat' (with_reducible apply And.intro)
    all_goals first | trivial | rfl | exact decide_eq_true h1 | exact decide_eq_false h1 | exact beq_iff_eq.2 h2 | exact beq_eq_false_iff_ne.2 h2 | exact beq_iff_eq.2 h3 | exact beq_eq_false_iff_ne.2 h3 | (simp [leVs, leP, leE, leL, leC]; done) | omega | (simp [leP, leE, leL, leC, mapF, grpF, objU, usualC, rwS, oRows, h1, h2, h3, u3, wu64]; done) | (simp [leP, leE, leL, leC, mapF, grpF, objU, usualC, rwS, oRows, h1, h2, h3, u3, wu64]; omega)
  · refine FnOk.tree t28 (.f [] hu (.f [] a0 (.f [] w0 (.f [] a0 (.f [] d0 (.f [] a1 (.f [] w1 (.f [] a1 (.f [] d1 (.f [] a1 (.f [] e1 (.a (.b 41 false) (.f [] a2 (.f [] w2 (.a (.b 47 true) (.f [] a2 (.f [] d2 (.f [] a2 (.f [] e2 (.f [] a3 (.f [] w3 (.f [] a3 (.f [] d3 (.a (.b 65 true) .nil)))))))))))))))))))))))) rfl rfl rfl rfl ?_
    repeat' (with_reducible apply And.intro)
    all_goals first | trivial | rfl | exact decide_eq_true h1 | exact decide_eq_false h1 | exact beq_iff_eq.2 h2 | exact beq_eq_false_iff_ne.2 h2 | exact beq_iff_eq.2 h3 | exact beq_eq_false_iff_ne.2 h3 | (simp [leVs, leP, leE, leL, leC]; done) | omega | (simp [leP, leE, leL, leC, mapF, grpF, objU, usualC, rwS, oRows, h1, h2, h3, u3, wu64]; done) | (simp [leP, leE, leL, leC, mapF, grpF, objU, usualC, rwS, oRows, h1, h2, h3, u3, wu64]; omega)
  · refine FnOk.tree t28 (.f [] hu (.f [] a0 (.f [] w0 (.f [] a0 (.f [] d0 (.f [] a1 (.f [] w1 (.f [] a1 (.f [] d1 (.f [] a1 (.f [] e1 (.a (.b 41 false) (.f [] a2 (.f [] w2 (.a (.b 47 true) (.f [] a2 (.f [] d2 (.f [] a2 (.f [] e2 (.f [] a3 (.f [] w3 (.f [] a3 (.f [] d3 (.a (.b 65 false) .nil)))))))))))))))))))))))) rfl rfl rfl rfl ?_
    repeat' (with_reducible apply And.intro)
    all_goals first | trivial | rfl | exact decide_eq_true h1 | exact decide_eq_false h1 | exact beq_iff_eq.2 h2 | exact beq_eq_false_iff_ne.2 h2 | exact beq_iff_eq.2 h3 | exact beq_eq_false_iff_ne.2 h3 | (simp [leVs, leP, leE, leL, leC]; done) | omega | (simp [leP, leE, leL, leC, mapF, grpF, objU, usualC, rwS, oRows, h1, h2, h3, u3, wu64]; done) | (simp [leP, leE, leL, leC, mapF, grpF, objU, usualC, rwS, oRows, h1, h2, h3, u3, wu64]; omega)
  · refine FnOk.tree t28 (.f [] hu (.f [] a0 (.f [] w0 (.f [] a0 (.f [] d0 (.f [] a1 (.f [] w1 (.f [] a1 (.f [] d1 (.f [] a1 (.f [] e1 (.a (.b 41 false) (.f [] a2 (.f [] w2 (.a (.b 47 false) (.f [] a2 (.f [] e2 (.f [] a3 (.f [] w3 (.f [] a3 (.f [] d3 (.a (.b 65 true) .nil)))))))))))))))))))))) rfl rfl rfl rfl ?_
    repeat' (with_reducible apply And.intro)
    all_goals first | trivial | rfl | exact decide_eq_true h1 | exact decide_eq_false h1 | exact beq_iff_eq.2 h2 | exact beq_eq_false_iff_ne.2 h2 | exact beq_iff_eq.2 h3 | exact beq_eq_false_iff_ne.2 h3 | (simp [leVs, leP, leE, leL, leC]; done) | omega | (simp [leP, leE, leL, leC, mapF, grpF, objU, usualC, rwS, oRows, h1, h2, h3, u3, wu64]; done) | (simp [leP, leE, leL, leC, mapF, grpF, objU, usualC, rwS, oRows, h1, h2, h3, u3, wu64]; omega)
  · refine FnOk.tree t28 (.f [] hu (.f [] a0 (.f [] w0 (.f [] a0 (.f [] d0 (.f [] a1 (.f [] w1 (.f [] a1 (.f [] d1 (.f [] a1 (.f [] e1 (.a (.b 41 false) (.f [] a2 (.f [] w2 (.a (.b 47 false) (.f [] a2 (.f [] e2 (.f [] a3 (.f [] w3 (.f [] a3 (.f [] d3 (.a (.b 65 false) .nil)))))))))))))))))))))) rfl rfl rfl rfl ?_
    repeat' (with_reducible apply And.intro)
    all_goals first | trivial | rfl | exact decide_eq_true h1 | exact decide_eq_false h1 | exact beq_iff_eq.2 h2 | exact beq_eq_false_iff_ne.2 h2 | exact beq_iff_eq.2 h3 | exact beq_eq_false_iff_ne.2 h3 | (simp [leVs, leP, leE, leL, leC]; done) | omega | (simp [leP, leE, leL, leC, mapF, grpF, objU, usualC, rwS, oRows, h1, h2, h3, u3, wu64]; done) | (simp [leP, leE, leL, leC, mapF, grpF, objU, usualC, rwS, oRows, h1, h2, h3, u3, wu64]; omega)
def wideC : Cf := ⟨mapF, grpF, 100, 1000, 8, 8, 100000, 500, 2000, 1024, 1024, 0, objU⟩
theorem wide_ok : FnOk Tryz.prog 16 [] [] wideC.v [] := by
  have h := conf_ok (ks := []) (by simp) (by simp)
  refine FnOk.tree t16 (.f [] h .nil) rfl rfl rfl rfl ?_
  repeat' (with_reducible apply And.intro)
  all_goals first | trivial | rfl | (simp [leVs, leP, leE, leL, leC]; done) | (simp [leP, leE, leL, leC, confC, wideC]; done)
def orderA (v : Int) : Ask := { fn := 6, at_ := 100, val := v % 65536 }
theorem orderG_ok {v : Int} (hv : b64 v) : FnOk Tryz.prog 19 [vI .i64 v] [] (orderA v).v [] := by
  have h := within_ok (k := v) (n := 65536) hv (by omega)
  refine FnOk.tree t19 (.f [] h .nil) rfl rfl rfl rfl ?_
  simp [leVs, leP, leE, leL, leC, orderA, wu16]
end Go.Proofs.YthddlkhfkncgpaaGreat

set_option maxRecDepth 100000
set_option maxHeartbeats 2000000
set_option linter.unusedVariables false
set_option linter.unusedSimpArgs false
namespace Go.Proofs.YthddlkhfkncgpaaGreat
open Go.RowKit

theorem confC_ok (ks : List Int) : (confC ks).Ok := by
  refine ⟨by simp [confC, mapF], by simp [confC, grpF], fun g hg => ?_, by simp [confC], by simp [confC, objU], fun o ho => ?_⟩
  · simp only [confC, grpF, List.mem_cons, List.not_mem_nil, or_false] at hg
    rcases hg with rfl | rfl | rfl <;> simp [GrB]
  · simp only [confC, objU, List.mem_cons, List.not_mem_nil, or_false] at ho
    rcases ho with rfl | rfl | rfl <;> simp [b64] <;> decide
theorem wideC_ok : wideC.Ok := by
  have h := confC_ok []
  exact ⟨h.map, h.groups, h.gr, h.window, h.objs, h.ob⟩
/-- Sessions as a configuration has them. -/
def ssC (c : Cf) : Ss := ⟨capT c.lease, ⟨max c.sessions 0, max c.spans 0, max c.writes 0⟩, newSt c.first c.versions, ⟨0, []⟩, ⟨0, []⟩, ⟨0, []⟩⟩
/-- The document's sessions, new: sessions, engine, store, book. -/
def docO (c : Cf) : List Ob := [.box [.ptr 9 0, .ptr 11 0, .t .nil], .box [.ptr 10 0, .t (.int .i64 (max c.sessions 0)), .t (.int .i64 (max c.spans 0)), .t (.int .i64 (max c.writes 0)), .t .nil], .box [.t (.int .u64 c.first), .t (.int .i64 (min (max c.versions 0) 1048576)), .t .nil], .box [.t (.int .i64 (capT c.lease)), .t .nil]]
theorem mxz (x : Int) : (if x < 0 then 0 else x) = max x 0 := by split <;> omega
theorem docStore_ok {a m : Int} : FnOk Tryz.prog 58 [vI .u64 a, vI .i64 m] [] (vC (.ptr 0 0)) [.box [.t (.int .u64 a), .t (.int .i64 (min (max m 0) 1048576)), .t .nil]] := by
  have e : ∀ x : Int, (if 1048576 < x then 1048576 else x) = min x 1048576 := fun x => by split <;> omega
  refine FnOk.tree t58 (.a (.call [0] [] .u []) .nil) rfl rfl rfl rfl ?_
  simp [leP, leE, leC, mxz, e]
  exact .of rfl
theorem docEng_ok {fst m a b c : Int} : FnOk Tryz.prog 57 [vC (.ptr 0 0), vI .i64 a, vI .i64 b, vI .i64 c] [.box [.t (.int .u64 fst), .t (.int .i64 m), .t .nil]] (vC (.ptr 1 0)) [.box [.t (.int .u64 fst), .t (.int .i64 m), .t .nil], .box [.ptr 0 0, .t (.int .i64 (max a 0)), .t (.int .i64 (max b 0)), .t (.int .i64 (max c 0)), .t .nil]] := by
  refine FnOk.tree t57 (.a (.call [0, 1] [] .u []) .nil) rfl rfl rfl rfl ?_
  simp [leP, leE, leC, mxz]
  exact .of rfl
theorem docBook_ok {t : Int} : FnOk Tryz.prog 120 [vI .i64 t] [] (vC (.ptr 0 0)) [.box [.t (.int .i64 (capT t)), .t .nil]] := by
  refine FnOk.tree t120 (.a (.call [0] [] .u []) .nil) rfl rfl rfl rfl ?_
  simp [leP, leE, leC, capT]
  exact .of rfl
theorem docSess_ok {fst m a b c t : Int} : FnOk Tryz.prog 56 [vC (.ptr 0 0), vI .i64 t] [.box [.ptr 1 0, .t (.int .i64 a), .t (.int .i64 b), .t (.int .i64 c), .t .nil], .box [.t (.int .u64 fst), .t (.int .i64 m), .t .nil]] (vC (.ptr 3 0))
    [.box [.ptr 1 0, .t (.int .i64 a), .t (.int .i64 b), .t (.int .i64 c), .t .nil], .box [.t (.int .u64 fst), .t (.int .i64 m), .t .nil], .box [.t (.int .i64 (capT t)), .t .nil], .box [.ptr 0 0, .ptr 2 0, .t .nil]] := by
  have h := docBook_ok (t := t)
  refine FnOk.tree t56 (.o [] [] h (.a (.call [0, 1, 2, 3] [] .u []) .nil)) rfl rfl rfl rfl ?_
  repeat' (with_reducible apply And.intro)
  all_goals first | trivial | rfl | exact .refl _ | exact leP_refl _ | (simp [leVs, leP, leE, leEs, leL, leC]; done)
theorem sessions_ok {c : Cf} : FnOk Tryz.prog 17 [c.v] [] (.tup [.c (.ptr 0 0), .c (.ptr 8 0)]) (ssO (ssC c) ++ docO c) := by
  have h1 := docStore_ok (a := c.first) (m := c.versions)
  have h2 := docEng_ok (fst := c.first) (m := min (max c.versions 0) 1048576) (a := c.sessions) (b := c.spans) (c := c.writes)
  have h3 := docSess_ok (fst := c.first) (m := min (max c.versions 0) 1048576) (a := max c.sessions 0) (b := max c.spans 0) (c := max c.writes 0) (t := c.lease)
  have h4 := sNew_ok (a := c.first) (m := c.versions)
  have h5 := eNew_ok (s := newSt c.first c.versions) (a := c.sessions) (b := c.spans) (c := c.writes)
  have h6 := ssNew_ok (e := ⟨max c.sessions 0, max c.spans 0, max c.writes 0⟩) (s := newSt c.first c.versions) (M := ⟨0, []⟩) (t := c.lease)
  refine FnOk.tree t17 (.o [] [] h1 (.o [1] [] h2 (.o [2, 1] [] h3 (.o [] [] h4 (.o [5, 6] [] h5 (.o [7, 5, 6, 8] [] h6 (.a (.call [9, 7, 5, 6, 8, 10, 11, 12, 4, 2, 1, 3] [] .u []) .nil))))))) rfl rfl rfl rfl ?_
  repeat' (with_reducible apply And.intro)
  all_goals first | trivial | rfl | exact .refl _ | exact leP_refl _ | (simp [leVs, leP, leE, leEs, leL, leC]; done)
/-- A request by two numbers: a command, a part of the window, one that is right, or any. -/
def nextA (k v : Int) (raw : Ask) : Ask :=
  if k % 9 = 0 ∨ k % 9 = 1 then orderA (1 + dig k 9 3)
  else if k % 9 = 2 then { fn := 3, at_ := 98 + dig k 9 11, n := 1 + dig k 99 9 }
  else if k % 9 = 3 then (if (askG v k).fn = 43 then askG v k else { askG v k with at_ := 97 + dig k 9 12 })
  else if k % 9 = 4 then (if dig k 9 4 = 0 then raw else { fn := 16, at_ := 100, n := 1, words := [dig k 9 5] })
  else askG (dig k 9 1099511627776) v
theorem orderA_fit {v : Int} : (orderA v).Fit := fitA (by simp [orderA, b64]) (by simp [orderA, b64]) (by simp [orderA, b64]) (by simp [orderA]; omega) (by simp [orderA]) (by simp [orderA]) (by simp [orderA]) (by simp [orderA]) wrd_nil (by simp [orderA, b64]) (by simp [orderA, b64]) (by simp [orderA, b64]) (by simp [orderA, b64])
theorem nextA_fit {k v : Int} {raw : Ask} (hr : raw.Fit) : (nextA k v raw).Fit := by
  have d1 := digR k 9 (n := 11) (by omega)
  have d2 := digR k 99 (n := 9) (by omega)
  have d3 := digR k 9 (n := 12) (by omega)
  have d4 := digR k 9 (n := 5) (by omega)
  unfold nextA
  split
  · exact orderA_fit
  · split
    · exact fitA (by simp [b64]) (by simp [b64]; omega) (by simp [b64]; omega) (by simp) (by simp) (by simp) (by simp) (by simp) wrd_nil (by simp [b64]) (by simp [b64]) (by simp [b64]) (by simp [b64])
    · split
      · have hf := (askG_fit v k).1
        split
        · exact hf
        · exact fitA hf.fn (by simp only [b64]; omega) hf.n hf.val hf.and_ hf.or_ hf.bits hf.words hf.wrd hf.ra hf.rn hf.code hf.obj
      · split
        · split
          · exact hr
          · exact fitA (by simp [b64]) (by simp [b64]) (by simp [b64]) (by simp) (by simp) (by simp) (by simp) (by simp) (fun x hx => by simp at hx; subst hx; omega) (by simp [b64]) (by simp [b64]) (by simp [b64]) (by simp [b64])
        · exact (askG_fit _ _).1
theorem next_ok {k v : Int} (hk : b64 k) (hv : b64 v) {raw : Ask} : FnOk Tryz.prog 29 [vI .i64 k, vI .i64 v, raw.v] [] (nextA k v raw).v [] := by
  have hw := within_ok (k := k) (n := 9) hk (by omega)
  have hr : k % 9 = 0 ∨ k % 9 = 1 ∨ k % 9 = 2 ∨ k % 9 = 3 ∨ k % 9 = 4 ∨ k % 9 = 5 ∨ k % 9 = 6 ∨ k % 9 = 7 ∨ k % 9 = 8 := by omega
  unfold nextA
  generalize k % 9 = w at *
  have e3 := digit_ok (k := k) (d := 9) (n := 3) hk (by omega) (by omega)
  have e11 := digit_ok (k := k) (d := 9) (n := 11) hk (by omega) (by omega)
  have e9 := digit_ok (k := k) (d := 99) (n := 9) hk (by omega) (by omega)
  have e12 := digit_ok (k := k) (d := 9) (n := 12) hk (by omega) (by omega)
  have e4 := digit_ok (k := k) (d := 9) (n := 4) hk (by omega) (by omega)
  have e5 := digit_ok (k := k) (d := 9) (n := 5) hk (by omega) (by omega)
  have eb := digit_ok (k := k) (d := 9) (n := 1099511627776) hk (by omega) (by omega)
  have d3 := digR k 9 (n := 3) (by omega)
  have d11 := digR k 9 (n := 11) (by omega)
  have d9 := digR k 99 (n := 9) (by omega)
  have d12 := digR k 9 (n := 12) (by omega)
  have d5 := digR k 9 (n := 5) (by omega)
  have db := digR k 9 (n := 1099511627776) (by omega)
  have hor := orderG_ok (v := 1 + dig k 9 3) (by simp only [b64]; omega)
  have hg1 := askG_ok (k := v) (v := k) hv hk
  have hg2 := askG_ok (k := dig k 9 1099511627776) (v := v) (by simp only [b64]; omega) hv
  generalize dig k 9 3 = g3 at *
  generalize dig k 9 11 = g11 at *
  generalize dig k 99 9 = g9 at *
  generalize dig k 9 12 = g12 at *
  generalize dig k 9 4 = g4 at *
  generalize dig k 9 5 = g5 at *
  generalize dig k 9 1099511627776 = gb at *
  generalize askG v k = a1 at *
  generalize askG gb v = a2 at *
  have u5 : IntKind.u16.wrap g5 = g5 := by rw [wu16]; omega
  rcases hr with rfl | rfl | rfl | rfl | rfl | rfl | rfl | rfl | rfl
  iterate 2
    · refine FnOk.tree t29 (.f [] hw (.f [] e3 (.f [] hor .nil))) rfl rfl rfl rfl ?_
      repeat' (with_reducible apply And.intro)
      all_goals first | trivial | rfl | omega | (simp [leVs, leP, leE, leL, leC]; done)
  · refine FnOk.tree t29 (.f [] hw (.f [] e11 (.f [] e9 .nil))) rfl rfl rfl rfl ?_
    repeat' (with_reducible apply And.intro)
    all_goals first | trivial | rfl | omega | (simp [leVs, leP, leE, leL, leC]; done)
  · by_cases h43 : a1.fn = 43
    · refine FnOk.tree t29 (.f [] hw (.f [] hg1 (.a (.b 33 false) .nil))) rfl rfl rfl rfl ?_
      repeat' (with_reducible apply And.intro)
      all_goals first | trivial | rfl | omega | (simp [leVs, leP, leE, leL, leC]; done) | (simp [h43]; done) | (simp [leP, leE, leL, leC, h43]; done)
    · refine FnOk.tree t29 (.f [] hw (.f [] hg1 (.a (.b 33 true) (.f [] e12 .nil)))) rfl rfl rfl rfl ?_
      repeat' (with_reducible apply And.intro)
      all_goals first | trivial | rfl | omega | (simp [leVs, leP, leE, leL, leC]; done) | (simp [h43]; done) | (simp [leP, leE, leL, leC, h43]; done)
  · by_cases h0 : g4 = 0
    · refine FnOk.tree t29 (.f [] hw (.f [] e4 (.a (.b 43 true) .nil))) rfl rfl rfl rfl ?_
      repeat' (with_reducible apply And.intro)
      all_goals first | trivial | rfl | omega | (simp [leVs, leP, leE, leL, leC]; done) | (simp [h0]; done) | (simp [leP, leE, leL, leC, h0]; done)
    · refine FnOk.tree t29 (.f [] hw (.f [] e4 (.a (.b 43 false) (.f [] e5 .nil)))) rfl rfl rfl rfl ?_
      repeat' (with_reducible apply And.intro)
      all_goals first | trivial | rfl | omega | (simp [leVs, leP, leE, leL, leC]; done) | (simp [h0]; done) | (simp [leP, leE, leL, leC, h0, rI, u5]; done)
  iterate 4
    · refine FnOk.tree t29 (.f [] hw (.f [] eb (.f [] hg2 .nil))) rfl rfl rfl rfl ?_
      repeat' (with_reducible apply And.intro)
      all_goals first | trivial | rfl | omega | (simp [leVs, leP, leE, leL, leC]; done)
end Go.Proofs.YthddlkhfkncgpaaGreat

set_option maxRecDepth 100000
set_option maxHeartbeats 2000000
set_option linter.unusedVariables false
set_option linter.unusedSimpArgs false
namespace Go.Proofs.YthddlkhfkncgpaaGreat
open Go.RowKit

section
variable {x : Ss} {k : Int}
theorem Sw.cmd (h : Sw x) {v : Int} : Sw (cmdR x k v).2 := by
  unfold cmdR
  split
  · exact h.begin
  · split
    · exact h.commit
    · exact h.abort
theorem Sw.ctl (h : Sw x) {w : Int} {a : Ask} : Sw (ctlR x w k a).2 := by
  unfold ctlR
  repeat' split
  all_goals first | exact h | exact h.cmd
theorem Sw.dataE (h : Sw x) {a : Ask} {rd : List Spn} : Sw (dataE x k a rd).2 := by
  unfold Go.Proofs.YthddlkhfkncgpaaGreat.dataE
  split
  · exact h
  · split <;> exact h.read
theorem Sw.dataW (h : Sw x) {a : Ask} {was : Int} {rd wr : List Spn} : Sw (dataW x k a was rd wr).2 := by
  unfold Go.Proofs.YthddlkhfkncgpaaGreat.dataW
  split
  · exact h.dataE
  · split
    · exact h.write.dataE
    · exact h.write
theorem Sw.data (h : Sw x) {a : Ask} {rd wr : List Spn} : Sw (dataR x k a rd wr).2 := by
  unfold dataR
  split
  · split
    · exact h
    · split
      · exact h.read.dataW
      · exact h.read
  · exact h.dataW
theorem Sw.do (h : Sw x) {c : Cf} {a : Ask} : Sw (doR c x k a).2 := by
  unfold doR
  repeat' split
  all_goals first | exact h | exact h.ctl | exact h.data
end
structure Cf.Lo (c : Cf) : Prop where
  sp : c.spans ≤ 1000000
  wr : c.writes ≤ 1000000
  first : 0 ≤ c.first ∧ c.first ≤ 18446744073709551615
theorem ssC_w {c : Cf} (h : c.Lo) : Sw (ssC c) := by
  have h1 := h.sp
  have h2 := h.wr
  refine ⟨⟨?_, ?_, by simp [ssC], ?_⟩, fun j => ?_⟩
  · show 0 ≤ max c.spans 0 ∧ max c.spans 0 ≤ 1000000
    omega
  · show 0 ≤ max c.writes 0 ∧ max c.writes 0 ≤ 1000000
    omega
  · exact ⟨by simp [ssC, newSt], fun e he => by simp [ssC, newSt] at he, h.first, by simp only [ssC, newSt]; omega, by simp only [ssC, newSt]; omega⟩
  · show Sk (stG ⟨0, []⟩ j)
    have : stG ⟨0, []⟩ j = ⟨0, 0, 0, 0⟩ := rfl
    rw [this]
    simp [Sk]
theorem confC_lo (ks : List Int) : (confC ks).Lo := by
  have r1 := digR (ks.getD 1 0) 6 (n := 20) (by omega)
  refine ⟨?_, ?_, ?_⟩
  · simp only [confC]; split <;> omega
  · simp only [confC]; split <;> omega
  · simp only [confC]; split <;> omega
theorem wideC_lo : wideC.Lo := ⟨by simp [wideC], by simp [wideC], by simp [wideC]⟩
theorem far_fit : ({ fn := 3, at_ := 65535, n := 2 } : Ask).Fit := fitA (by simp [b64]) (by simp [b64]) (by simp [b64]) (by simp) (by simp) (by simp) (by simp) (by simp) wrd_nil (by simp [b64]) (by simp [b64]) (by simp [b64]) (by simp [b64])
theorem do_far (c : Cf) (x : Ss) (k : Int) : doR c x k { fn := 3, at_ := 65535, n := 2 } = (failT 3 2, x) := by
  have h1 : (({ fn := 3, at_ := 65535, n := 2 } : Ask)).right = true := by rfl
  have h2 : spans { fn := 3, at_ := 65535, n := 2 } = ([(2, 65535, 65537)], []) := by rfl
  unfold doR
  rw [h1, h2, if_neg (by simp), if_neg (by simp), if_pos]
  · simp [whereS, spnR]
theorem awake25_ok : FnOk Tryz.prog 11 [] [] (vB true) [] := by
  have hc := conf_ok (ks := []) (by simp) (by simp)
  have hS := sessions_ok (c := confC [])
  have ho := orderG_ok (v := 1) (by simp [b64])
  have hw := ssC_w (confC_lo [])
  have h1 := do_ok (confC_ok []) hw (k := 0) (a := orderA 1) orderA_fit
  have hw1 := hw.do (k := 0) (c := confC []) (a := orderA 1)
  have e1 : (doR (confC []) (ssC (confC [])) 0 (orderA 1)).1.fn = 6 := by kernel_rfl
  generalize doR (confC []) (ssC (confC [])) 0 (orderA 1) = r at *
  obtain ⟨t, y⟩ := r
  simp only at h1 hw1 e1
  have h2 := do_ok (confC_ok []) hw1 (k := 0) far_fit
  rw [do_far] at h2
  simp only at h2
  refine FnOk.tree t11 (.f [] hc (.o [] [] hS (.f [] ho (.o [1, 2, 3, 4, 5, 6, 7, 8] [] h1 (.o [1, 2, 3, 4, 5, 6, 7, 8] [] h2 (.a (.b 25 true) .nil)))))) rfl rfl rfl rfl ?_
  repeat' (with_reducible apply And.intro)
  all_goals first | trivial | rfl | exact .refl _ | exact leP_refl _ | (simp [leVs, leP, leE, leEs, leL, leC]; done) | (simp [e1]; done)
end Go.Proofs.YthddlkhfkncgpaaGreat
