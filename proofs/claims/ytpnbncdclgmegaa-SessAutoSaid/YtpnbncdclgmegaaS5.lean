/-
  SessDead.
-/
import Derived.Test.YtpnbncdclgmegaaS4
set_option maxRecDepth 100000
set_option maxHeartbeats 1000000
set_option linter.unusedVariables false
set_option linter.unusedSimpArgs false
namespace Go.Proofs.Ytpnbncdclgmegaa
open Go.RowKit

theorem one_ok {t a v : Int} : FnOk Try.prog 40 [vI .i64 t, vI .i64 a, vI .u16 v] [] (vCl [(t, a, v)]) [] := by
  refine FnOk.tree t40 .nil rfl rfl rfl rfl ?_
  simp [leP, leE, leC, rwC]
theorem sO_read {x y : Ss} {c r : Int} {sp : Spn} {l : List Int} (hx : SsGo x c) (h : sreadR x c sp = (l, r, y)) : FnOk Try.prog 33 [vC (.ptr 0 0), vI .i64 c, vS3 sp] (ssO x) (vWE l r) (ssO y) := by
  have := ssRead_ok (sp := sp) hx
  rw [h] at this
  exact this
theorem sO_write {x y : Ss} {c r : Int} {l : List Cel} (hl : l.length ≤ 1000000) (hx : SsGo x c) (h : swriteR x c l = (r, y)) : FnOk Try.prog 34 [vC (.ptr 0 0), vI .i64 c, vCl l] (ssO x) (vI .i64 r) (ssO y) := by
  have := ssWrite_ok hl hx
  rw [h] at this
  exact this
theorem sO_commit {x y : Ss} {c r : Int} (hx : SsGo x c) (h : scomR x c = (r, y)) : FnOk Try.prog 41 [vC (.ptr 0 0), vI .i64 c] (ssO x) (vI .i64 r) (ssO y) := by
  have := ssCommit_ok hx
  rw [h] at this
  exact this
theorem sO_abort {x y : Ss} {c r : Int} (h : sabR x c = (r, y)) : FnOk Try.prog 42 [vC (.ptr 0 0), vI .i64 c] (ssO x) (vI .i64 r) (ssO y) := by
  have := ssAbort_ok (x := x) (c := c)
  rw [h] at this
  exact this
theorem sO_close {x y : Ss} {c : Int} {r : Bool} (h : closeR x c = (r, y)) : FnOk Try.prog 45 [vC (.ptr 0 0), vI .i64 c] (ssO x) (vB r) (ssO y) := by
  have := ssClose_ok (x := x) (c := c)
  rw [h] at this
  exact this
abbrev d0 : St := ⟨0, 0, 100, []⟩
abbrev dE : En := ⟨1, 0, 5⟩
/-- Open; dead; begun anew; closed. -/
abbrev dOp : Ss := ⟨50, dE, d0, ⟨1, [(0, 3, ⟨0, [], []⟩)]⟩, ⟨1, [(0, 3, 50)]⟩, ⟨1, [(0, 3, ⟨1, 0, 0, 0⟩)]⟩⟩
abbrev dDe : Ss := ⟨50, dE, d0, ⟨1, []⟩, ⟨1, []⟩, ⟨1, [(0, 3, ⟨2, 4, 0, 0⟩)]⟩⟩
abbrev dNw : Ss := ⟨50, dE, d0, ⟨2, [(1, 3, ⟨0, [], []⟩)]⟩, ⟨2, [(1, 3, 50)]⟩, ⟨1, [(0, 3, ⟨1, 0, 0, 0⟩)]⟩⟩
abbrev dCl : Ss := ⟨50, dE, d0, ⟨1, []⟩, ⟨1, []⟩, ⟨1, []⟩⟩
theorem gd0 : StGo d0 := stGo_small rfl ⟨by decide, by decide⟩ ⟨by decide, by decide⟩ ⟨by decide, by decide⟩
theorem ssGo_none {x : Ss} {c : Int} (h : StGo x.s) (h2 : x.M.get c = none) : SsGo x c := ⟨h, fun v hv => by rw [h2] at hv; cases hv⟩
theorem dead_read : FnOk Try.prog 33 [vC (.ptr 0 0), vI .i64 3, vS3 (2, 0, 4)] (ssO dDe) (vWE [] 5) (ssO dDe) := sO_read (ssGo_none gd0 rfl) rfl
theorem sessDead_ok {ops : List Int} (hk : ∀ x ∈ ops, b64 x) (hm : ops.length ≤ 9223372036854775807) {bg : Bool} : FnOk Try.prog 7 [vD (lI .i64 ops), vB bg] [] (vB true) [] := by
  have ha := awake24_ok
  by_cases hn : 20 < ops.length
  · refine FnOk.tree t7 (.a (.b 17 true) (.a (.b 20 true) (.f [] ha .nil))) rfl rfl rfl rfl ?_
    repeat' apply And.intro
    all_goals first | trivial | rfl | (exact decide_eq_true (by omega)) | (simp [leVs, leP, leE, leL, leC]; done)
  have h1 : FnOk Try.prog 31 [vI .i64 1, vI .i64 0, vI .i64 5, vI .i64 100, vI .i64 50] [] (vC (.ptr 0 0)) (ssO ⟨50, dE, d0, ⟨0, []⟩, ⟨0, []⟩, ⟨0, []⟩⟩) := made24_ok (a := 1) (b := 0) (c := 5) (r := 100) (t := 50)
  have h2 := sO_begin (x := ⟨50, dE, d0, ⟨0, []⟩, ⟨0, []⟩, ⟨0, []⟩⟩) (y := dOp) (c := 3) (r := 0) rfl
  have h3 := sO_read (x := dOp) (y := dDe) (c := 3) (sp := (2, 0, 4)) (l := []) (r := 4) ⟨gd0, vwOk_one rfl ⟨by decide, by decide, by simp, by simp⟩⟩ rfl
  have hs := sO_state (x := dDe) (c := 3) (v := ⟨2, 4, 0, 0⟩) rfl
  refine FnOk.start t7 rfl rfl rfl ?_
  refine Tri.seq (Tri.go [] rfl trivial ?_)
  refine Tri.seq (Tri.tree (.a (.b 17 false) (.f [] ha (.a (.b 20 false) .nil))) rfl ⟨decide_eq_false (by omega), trivial, by simp [leVs], rfl, ?_⟩)
  refine Tri.seq (Tri.tree (.o [] [] h1 .nil) rfl ?_)
  repeat ((with_reducible apply And.intro); focus (first | trivial | exact rfl | rfl | (exact decide_eq_true (by omega)) | (exact decide_eq_false (by omega)) | (simp [leVs, leP, leE, leEs, leL, leC, rI, rwC, rwS]; done)))
  refine Tri.seq (Tri.go [] rfl trivial ?_)
  refine Tri.seq (Tri.tree (.o [0, 1, 2, 3, 4, 5, 6, 7] [] h2 (.a (.b 30 false) .nil)) rfl ?_)
  repeat ((with_reducible apply And.intro); focus (first | trivial | exact rfl | rfl | (exact decide_eq_true (by omega)) | (exact decide_eq_false (by omega)) | (simp [leVs, leP, leE, leEs, leL, leC, rI, rwC, rwS]; done)))
  refine Tri.seq (Tri.tree (.o [0, 1, 2, 3, 4, 5, 6, 7] [] h3 (.a (.b 38 false) .nil)) rfl ?_)
  repeat ((with_reducible apply And.intro); focus (first | trivial | exact rfl | rfl | (exact decide_eq_true (by omega)) | (exact decide_eq_false (by omega)) | (simp [leVs, leP, leE, leEs, leL, leC, rI, rwC, rwS]; done)))
  refine Tri.seq (Tri.go [] rfl trivial ?_)
  refine Tri.mid (fun ρ hl => hl = ssO dDe ++ [bxS (2, 0, 4), .box [.t (.int .i64 2), .t (.int .i64 4), .t (.int .i64 50), .t (.int .u64 0)]] ∧ keepE ρ [1, 5, 6] = some [(1, vB bg), (5, vC (.ptr 0 0)), (6, vC (.ptr 8 0))]) ?_ ?_
  · refine Tri.seq (Tri.go [] rfl trivial ?_)
    refine Tri.block ?_
    refine Tri.lp (fun z ρ hl => ∃ i, z = ops.length - i ∧ i ≤ ops.length ∧ hl = ssO dDe ++ [bxS (2, 0, 4), .box [.t (.int .i64 2), .t (.int .i64 4), .t (.int .i64 50), .t (.int .u64 0)]] ∧
      keepE ρ [0, 1, 5, 6, 9, 10] = some [(0, vD (lI .i64 ops)), (1, vB bg), (5, vC (.ptr 0 0)), (6, vC (.ptr 8 0)), (9, vC (.ptr 9 0)), (10, vI .i64 i)]) ops.length ⟨0, by omega, by omega, rfl, keep_of rfl rfl⟩ ?_
    rintro z ρ hl' ⟨i, rfl, hi, rfl, hkk⟩
    refine Tri.keep _ hkk ?_
    by_cases h : i < ops.length
    · have hg : (rI .i64 ops)[i]? = some [.int .i64 ops[i]] := by simp [rI, h]
      have hb := hk _ (List.getElem_mem h)
      generalize ops[i] = k at *
      have hwi := within_ok (k := k) (n := 6) hb (by omega)
      have hr : k % 6 = 0 ∨ k % 6 = 1 ∨ k % 6 = 2 ∨ k % 6 = 3 ∨ k % 6 = 4 ∨ k % 6 = 5 := by omega
      have fin : ∀ {ρ : Env} {Q : Exit → Env → List Ob → Prop}, True := fun {_ _} => trivial
      refine Tri.seq (Tri.go [.b 43 true] rfl ⟨decide_eq_true (by omega), trivial⟩ ?_)
      refine Tri.seq (Tri.block (Tri.seq (Tri.go [] rfl trivial ?_)))
      refine Tri.seq (Tri.seq (Tri.tree (.a (.at [.int .i64 k]) (.f [] hwi .nil)) rfl ?_))
      repeat ((with_reducible apply And.intro); focus (first | trivial | exact rfl | exact ⟨by omega, rfl, hg⟩ | rfl | (exact decide_eq_true (by omega)) | (exact decide_eq_false (by omega)) | (simp [leVs, leP, leE, leEs, leL, leC, rI, rwC, rwS]; done)))
      rcases hr with hr | hr | hr | hr | hr | hr
      · rw [hr]
        refine Tri.tree (.a (.b 51 true) (.o [0, 1, 2, 3, 4, 5, 6, 7] [] dead_read .nil)) rfl ?_
        repeat ((with_reducible apply And.intro); focus (first | trivial | exact rfl | rfl | (exact decide_eq_true (by omega)) | (exact decide_eq_false (by omega)) | (simp [leVs, leP, leE, leEs, leL, leC, rI, rwC, rwS]; done)))
        refine Tri.tree (.a (.b 84 false) (.o [0, 1, 2, 3, 4, 5, 6, 7] [] hs (.a (.b 89 false) .nil))) rfl ?_
        repeat ((with_reducible apply And.intro); focus (first | trivial | exact rfl | rfl | (exact decide_eq_true (by omega)) | (exact decide_eq_false (by omega)) | (simp [leVs, leP, leE, leEs, leL, leC, rI, rwC, rwS]; done)))
        exact Tri.go [] rfl ⟨by omega, trivial⟩ (again (ops.length - (i + 1)) (by omega) ⟨i + 1, rfl, by omega, rfl, keep_of rfl (by simp)⟩)
      · rw [hr]
        have ho := one_ok (t := 2) (a := 1) (v := 7)
        have hw := sO_write (x := dDe) (y := dDe) (c := 3) (l := [(2, 1, 7)]) (r := 5) (by decide) (ssGo_none gd0 rfl) rfl
        refine Tri.tree (.a (.b 51 false) (.a (.b 59 true) (.f [] ho (.o [0, 1, 2, 3, 4, 5, 6, 7] [] hw .nil)))) rfl ?_
        repeat ((with_reducible apply And.intro); focus (first | trivial | exact rfl | rfl | (exact decide_eq_true (by omega)) | (exact decide_eq_false (by omega)) | (simp [leVs, leP, leE, leEs, leL, leC, rI, rwC, rwS]; done)))
        refine Tri.tree (.a (.b 84 false) (.o [0, 1, 2, 3, 4, 5, 6, 7] [] hs (.a (.b 89 false) .nil))) rfl ?_
        repeat ((with_reducible apply And.intro); focus (first | trivial | exact rfl | rfl | (exact decide_eq_true (by omega)) | (exact decide_eq_false (by omega)) | (simp [leVs, leP, leE, leEs, leL, leC, rI, rwC, rwS]; done)))
        exact Tri.go [] rfl ⟨by omega, trivial⟩ (again (ops.length - (i + 1)) (by omega) ⟨i + 1, rfl, by omega, rfl, keep_of rfl (by simp)⟩)
      · rw [hr]
        have hw := sO_commit (x := dDe) (y := dDe) (c := 3) (r := 5) (ssGo_none gd0 rfl) rfl
        refine Tri.tree (.a (.b 51 false) (.a (.b 59 false) (.a (.b 64 true) (.o [0, 1, 2, 3, 4, 5, 6, 7] [] hw .nil)))) rfl ?_
        repeat ((with_reducible apply And.intro); focus (first | trivial | exact rfl | rfl | (exact decide_eq_true (by omega)) | (exact decide_eq_false (by omega)) | (simp [leVs, leP, leE, leEs, leL, leC, rI, rwC, rwS]; done)))
        refine Tri.tree (.a (.b 84 false) (.o [0, 1, 2, 3, 4, 5, 6, 7] [] hs (.a (.b 89 false) .nil))) rfl ?_
        repeat ((with_reducible apply And.intro); focus (first | trivial | exact rfl | rfl | (exact decide_eq_true (by omega)) | (exact decide_eq_false (by omega)) | (simp [leVs, leP, leE, leEs, leL, leC, rI, rwC, rwS]; done)))
        exact Tri.go [] rfl ⟨by omega, trivial⟩ (again (ops.length - (i + 1)) (by omega) ⟨i + 1, rfl, by omega, rfl, keep_of rfl (by simp)⟩)
      · rw [hr]
        have hw := sO_abort (x := dDe) (y := dDe) (c := 3) (r := 5) rfl
        refine Tri.tree (.a (.b 51 false) (.a (.b 59 false) (.a (.b 64 false) (.a (.b 68 true) (.o [0, 1, 2, 3, 4, 5, 6, 7] [] hw .nil))))) rfl ?_
        repeat ((with_reducible apply And.intro); focus (first | trivial | exact rfl | rfl | (exact decide_eq_true (by omega)) | (exact decide_eq_false (by omega)) | (simp [leVs, leP, leE, leEs, leL, leC, rI, rwC, rwS]; done)))
        refine Tri.tree (.a (.b 84 false) (.o [0, 1, 2, 3, 4, 5, 6, 7] [] hs (.a (.b 89 false) .nil))) rfl ?_
        repeat ((with_reducible apply And.intro); focus (first | trivial | exact rfl | rfl | (exact decide_eq_true (by omega)) | (exact decide_eq_false (by omega)) | (simp [leVs, leP, leE, leEs, leL, leC, rI, rwC, rwS]; done)))
        exact Tri.go [] rfl ⟨by omega, trivial⟩ (again (ops.length - (i + 1)) (by omega) ⟨i + 1, rfl, by omega, rfl, keep_of rfl (by simp)⟩)
      · rw [hr]
        have hw : FnOk Try.prog 43 [vC (.ptr 0 0), vI .i64 3] (ssO dDe) (.tup []) (ssO dDe) := ssHear_ok (x := dDe) (c := 3)
        refine Tri.tree (.a (.b 51 false) (.a (.b 59 false) (.a (.b 64 false) (.a (.b 68 false) (.a (.b 72 true) (.o [0, 1, 2, 3, 4, 5, 6, 7] [] hw .nil)))))) rfl ?_
        repeat ((with_reducible apply And.intro); focus (first | trivial | exact rfl | rfl | (exact decide_eq_true (by omega)) | (exact decide_eq_false (by omega)) | (simp [leVs, leP, leE, leEs, leL, leC, rI, rwC, rwS]; done)))
        refine Tri.tree (.a (.b 84 false) (.o [0, 1, 2, 3, 4, 5, 6, 7] [] hs (.a (.b 89 false) .nil))) rfl ?_
        repeat ((with_reducible apply And.intro); focus (first | trivial | exact rfl | rfl | (exact decide_eq_true (by omega)) | (exact decide_eq_false (by omega)) | (simp [leVs, leP, leE, leEs, leL, leC, rI, rwC, rwS]; done)))
        exact Tri.go [] rfl ⟨by omega, trivial⟩ (again (ops.length - (i + 1)) (by omega) ⟨i + 1, rfl, by omega, rfl, keep_of rfl (by simp)⟩)
      · rw [hr]
        have hw := sO_tick (x := dDe) (y := dDe) (l := []) bkWf_nil (by simp) rfl
        refine Tri.tree (.a (.b 51 false) (.a (.b 59 false) (.a (.b 64 false) (.a (.b 68 false) (.a (.b 72 false) (.a (.b 76 true) (.o [0, 1, 2, 3, 4, 5, 6, 7] [] hw (.a (.b 81 false) .nil)))))))) rfl ?_
        repeat ((with_reducible apply And.intro); focus (first | trivial | exact rfl | rfl | (exact decide_eq_true (by omega)) | (exact decide_eq_false (by omega)) | (simp [leVs, leP, leE, leEs, leL, leC, rI, rwC, rwS]; done)))
        refine Tri.tree (.a (.b 84 false) (.o [0, 1, 2, 3, 4, 5, 6, 7] [] hs (.a (.b 89 false) .nil))) rfl ?_
        repeat ((with_reducible apply And.intro); focus (first | trivial | exact rfl | rfl | (exact decide_eq_true (by omega)) | (exact decide_eq_false (by omega)) | (simp [leVs, leP, leE, leEs, leL, leC, rI, rwC, rwS]; done)))
        exact Tri.go [] rfl ⟨by omega, trivial⟩ (again (ops.length - (i + 1)) (by omega) ⟨i + 1, rfl, by omega, rfl, keep_of rfl (by simp)⟩)
    · have : i = ops.length := by omega
      subst this
      exact Tri.seq (Tri.go [.b 43 false] rfl ⟨decide_eq_false (by omega), trivial⟩ (And.intro rfl (keep_of rfl rfl)))
  rintro ρ hl' ⟨rfl, hkk⟩
  refine Tri.keep _ hkk ?_
  cases bg with
  | true =>
    have c1 := sO_begin (x := dDe) (y := dNw) (c := 3) (r := 0) rfl
    have c2 := sO_state (x := dNw) (c := 3) (v := ⟨1, 0, 0, 0⟩) rfl
    have c3 := sEngine_ok (x := dNw)
    have c4 := eStore_ok (e := dE) (s := d0) (M := dNw.M)
    have c5 := sLast_ok (s := d0)
    refine Tri.seq (Tri.tree (.a (.b 90 true) (.o [0, 1, 2, 3, 4, 5, 6, 7] [] c1 (.a (.b 94 true) (.o [0, 1, 2, 3, 4, 5, 6, 7] [] c2 (.a (.b 100 true) (.o [0, 1, 2, 3, 4, 5, 6, 7] [] c3 (.o [1, 2, 3, 4] [] c4 (.o [2, 3] [] c5 .nil)))))))) rfl ?_)
    repeat ((with_reducible apply And.intro); focus (first | trivial | exact rfl | (simp [leVs, leP, leE, leEs, leL, leC, rI, rwC, rwS]; done)))
    exact RetQ.le [] [] rfl trivial (.refl _) (.refl _)
  | false =>
    have c1 := sO_close (x := dDe) (y := dCl) (c := 3) (r := true) rfl
    have c2 := sO_read (x := dCl) (y := dCl) (c := 3) (sp := (2, 0, 4)) (l := [0, 0, 0, 0]) (r := 0) (ssGo_none gd0 rfl) rfl
    have c3 := sO_state (x := dCl) (c := 3) (v := ⟨0, 0, 0, 0⟩) rfl
    have c4 := one_ok (t := 2) (a := 1) (v := 7)
    have c5 := sO_write (x := dCl) (y := ⟨50, dE, ⟨1, 1, 100, [((2, 1), [(1, 7)])]⟩, ⟨1, []⟩, ⟨1, []⟩, ⟨1, []⟩⟩) (c := 3) (l := [(2, 1, 7)]) (r := 0) (by decide) (ssGo_none gd0 rfl) rfl
    refine Tri.seq (Tri.tree (.a (.b 90 false) .nil) rfl ?_)
    repeat ((with_reducible apply And.intro); focus (first | trivial | exact rfl | rfl | (exact decide_eq_true (by omega)) | (exact decide_eq_false (by omega)) | (simp [leVs, leP, leE, leEs, leL, leC, rI, rwC, rwS]; done)))
    refine Tri.treeR (.o [0, 1, 2, 3, 4, 5, 6, 7] [] c1 (.a (.b 109 false) (.o [0, 1, 2, 3, 4, 5, 6, 7] [] c2 (.a (.b 118 true) (.a (.b 123 true) (.o [0, 1, 2, 3, 4, 5, 6, 7] [] c3 (.a (.b 129 true) (.f [] c4 (.o [0, 1, 2, 3, 4, 5, 6, 7] [] c5 .nil))))))))) rfl ?_
    repeat' apply And.intro
    all_goals first | trivial | rfl | exact .refl _ | exact leP_refl _ | (simp [leVs, leP, leE, leEs, leL, leC, rI]; done)
end Go.Proofs.Ytpnbncdclgmegaa
