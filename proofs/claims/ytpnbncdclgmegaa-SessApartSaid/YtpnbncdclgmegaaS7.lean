/-
  SessApart.
-/
import Derived.Test.YtpnbncdclgmegaaS6
import Derived.Test.YtpnbncdclgmegaaC1c
set_option maxRecDepth 100000
set_option maxHeartbeats 1000000
set_option linter.unusedVariables false
set_option linter.unusedSimpArgs false
namespace Go.Proofs.Ytpnbncdclgmegaa
open Go.RowKit

abbrev bx4 (a : Ses) (l : Int) : Ob := .box [.t (.int .i64 a.st), .t (.int .i64 a.re), .t (.int .i64 l), .t (.int .u64 a.q)]
theorem spn_b {sp : Spn} (h : spnR sp = true) : SpB sp := by simp [spnR] at h; omega
theorem sessApart_ok {ops : List Int} (hk : ∀ x ∈ ops, b64 x) (hm : ops.length ≤ 9223372036854775807) {sd : Int} (hsd : b64 sd) : FnOk Try.prog 8 [vD (lI .i64 ops), vI .i64 sd] [] (vB true) [] := by
  have ha := awake24_ok
  by_cases hn : 40 < ops.length
  · refine FnOk.tree t8 (.a (.b 16 true) (.a (.b 19 true) (.f [] ha .nil))) rfl rfl rfl rfl ?_
    repeat' apply And.intro
    all_goals first | trivial | rfl | (exact decide_eq_true (by omega)) | (simp [leVs, leP, leE, leL, leC]; done)
  have h1 : FnOk Try.prog 31 [vI .i64 4, vI .i64 20, vI .i64 20, vI .i64 1000, vI .i64 1000] [] (vC (.ptr 0 0)) (ssO ⟨1000, ⟨4, 20, 20⟩, ⟨0, 0, 1000, []⟩, ⟨0, []⟩, ⟨0, []⟩, ⟨0, []⟩⟩) := made24_ok (a := 4) (b := 20) (c := 20) (r := 1000) (t := 1000)
  have sb : Sb 0 ⟨0, 0, 1000, []⟩ := ⟨by simp, fun e he => by simp at he, ⟨by simp, by simp⟩, ⟨by simp, by simp⟩, rfl⟩
  refine FnOk.start t8 rfl rfl rfl ?_
  refine Tri.seq (Tri.go [] rfl trivial ?_)
  refine Tri.seq (Tri.tree (.a (.b 16 false) (.f [] ha (.a (.b 19 false) .nil))) rfl ⟨decide_eq_false (by omega), trivial, by simp [leVs], rfl, ?_⟩)
  refine Tri.seq (Tri.tree (.o [] [] h1 .nil) rfl ⟨trivial, by simp [leVs, leP, leE, leC], rfl, ?_⟩)
  refine Tri.seq (Tri.go [] rfl ⟨trivial, trivial⟩ ?_)
  refine Tri.mid (fun ρ hl => ∃ h a x, Iv h a 0 x ∧ hl = ssO x ∧ keepE ρ [0, 5] = some [(0, vD (lI .i64 ops)), (5, vC (.ptr 0 0))]) ?_ ?_
  · have hw := within_ok (k := sd) (n := 3) hsd (by omega)
    have hr : sd % 3 = 0 ∨ sd % 3 = 1 ∨ sd % 3 = 2 := by omega
    have b1 := sO_begin (x := ⟨1000, ⟨4, 20, 20⟩, ⟨0, 0, 1000, []⟩, ⟨0, []⟩, ⟨0, []⟩, ⟨0, []⟩⟩) (y := ⟨1000, ⟨4, 20, 20⟩, ⟨0, 0, 1000, []⟩, ⟨1, [(0, 9, ⟨0, [], []⟩)]⟩, ⟨1, [(0, 9, 1000)]⟩, ⟨1, [(0, 9, ⟨1, 0, 0, 0⟩)]⟩⟩) (c := 9) (r := 0) rfl
    rcases hr with hr | hr | hr
    · rw [hr] at hw
      refine Tri.tree (.f [] hw (.a (.b 27 false) (.a (.b 32 false) (.f [] hw (.a (.b 36 false) (.a (.b 41 false) .nil)))))) rfl ?_
      repeat ((with_reducible apply And.intro); focus (first | trivial | exact rfl | (simp [leVs, leP, leE, leEs, leL, leC, rI, rwC, rwS]; done)))
      exact ⟨false, ⟨0, 0, 0, 0⟩, ⟨1000, ⟨4, 20, 20⟩, ⟨0, 0, 1000, []⟩, ⟨0, []⟩, ⟨0, []⟩, ⟨0, []⟩⟩, ⟨rfl, rfl, rfl, rfl, rfl, fun e he => by simp at he, sb⟩, rfl, keep_of rfl rfl⟩
    · rw [hr] at hw
      have b2 := sO_abort (x := ⟨1000, ⟨4, 20, 20⟩, ⟨0, 0, 1000, []⟩, ⟨1, [(0, 9, ⟨0, [], []⟩)]⟩, ⟨1, [(0, 9, 1000)]⟩, ⟨1, [(0, 9, ⟨1, 0, 0, 0⟩)]⟩⟩) (y := ⟨1000, ⟨4, 20, 20⟩, ⟨0, 0, 1000, []⟩, ⟨1, []⟩, ⟨1, []⟩, ⟨1, [(0, 9, ⟨0, 1, 0, 0⟩)]⟩⟩) (c := 9) (r := 0) rfl
      refine Tri.tree (.f [] hw (.a (.b 27 true) (.o [0, 1, 2, 3, 4, 5, 6, 7] [] b1 (.a (.b 32 false) (.f [] hw (.a (.b 36 true) (.o [0, 1, 2, 3, 4, 5, 6, 7] [] b2 (.a (.b 41 false) .nil)))))))) rfl ?_
      repeat ((with_reducible apply And.intro); focus (first | trivial | exact rfl | (simp [leVs, leP, leE, leEs, leL, leC, rI, rwC, rwS]; done)))
      exact ⟨false, ⟨0, 1, 0, 0⟩, ⟨1000, ⟨4, 20, 20⟩, ⟨0, 0, 1000, []⟩, ⟨1, []⟩, ⟨1, []⟩, ⟨1, [(0, 9, ⟨0, 1, 0, 0⟩)]⟩⟩, ⟨rfl, rfl, rfl, rfl, rfl, fun e he => by simp at he, sb⟩, rfl, keep_of rfl rfl⟩
    · rw [hr] at hw
      refine Tri.tree (.f [] hw (.a (.b 27 true) (.o [0, 1, 2, 3, 4, 5, 6, 7] [] b1 (.a (.b 32 false) (.f [] hw (.a (.b 36 false) (.a (.b 41 false) .nil))))))) rfl ?_
      repeat ((with_reducible apply And.intro); focus (first | trivial | exact rfl | (simp [leVs, leP, leE, leEs, leL, leC, rI, rwC, rwS]; done)))
      exact ⟨true, ⟨1, 0, 0, 0⟩, ⟨1000, ⟨4, 20, 20⟩, ⟨0, 0, 1000, []⟩, ⟨1, [(0, 9, ⟨0, [], []⟩)]⟩, ⟨1, [(0, 9, 1000)]⟩, ⟨1, [(0, 9, ⟨1, 0, 0, 0⟩)]⟩⟩, ⟨rfl, rfl, rfl, rfl, rfl, fun e he => by simp at he; subst he; exact Vb.nil 0, sb⟩, rfl, keep_of rfl rfl⟩
  rintro ρ hl' ⟨h, a, x, v, rfl, hkk⟩
  refine Tri.keep _ hkk ?_
  have stA : ∀ {i : Nat} {x : Ss}, Iv h a i x → FnOk Try.prog 38 [vC (.ptr 0 0), vI .i64 9] (ssO x) (vSt a.st a.re 1000 a.q) (ssO x) := fun {i x} v => by
    have := sO_state (x := x) (c := 9) v.a9
    rw [v.t] at this
    exact this
  have stB : ∀ {i : Nat} {x : Ss}, Iv h a i x → FnOk Try.prog 38 [vC (.ptr 0 0), vI .i64 5] (ssO x) (vSt 0 0 1000 0) (ssO x) := fun {i x} v => by
    have := sO_state (x := x) (c := 5) v.a5
    rw [v.t] at this
    exact this
  have vwA : ∀ {i : Nat} {x : Ss}, Iv h a i x → i ≤ 1000 → FnOk Try.prog 28 [vC (.ptr 0 0), vI .i64 9] (eO x.e x.s x.M) (.tup [eVw 0 [] [], .c (.t (.bool h))]) (eO x.e x.s x.M) := fun {i x} v hi => by
    have := eView_ok (e := x.e) (s := x.s) (M := x.M) (k := 9) (fun u hu => (v.mb.get hu).ok)
    rw [v.m9] at this
    exact this
  have s1 := stA v
  have s2 := sEngine_ok (x := x)
  have s3 := vwA v (by omega)
  refine Tri.seq (Tri.tree (.o [0, 1, 2, 3, 4, 5, 6, 7] [] s1 .nil) rfl ?_)
  repeat ((with_reducible apply And.intro); focus (first | trivial | exact rfl | (simp [leVs, leP, leE, leEs, leL, leC, rI, rwC, rwS]; done)))
  refine Tri.seq (Tri.tree (.o [0, 1, 2, 3, 4, 5, 6, 7] [] s2 (.o [1, 2, 3, 4] [] s3 .nil)) rfl ?_)
  repeat ((with_reducible apply And.intro); focus (first | trivial | exact rfl | (simp [leVs, leP, leE, leEs, leL, leC, rI, rwC, rwS]; done)))
  refine Tri.mid (fun ρ hl => ∃ x, Iv h a ops.length x ∧ hl = ssO x ++ [bx4 a 1000, bxV 0 [] []] ∧ keepE ρ [5, 6] = some [(5, vC (.ptr 0 0)), (6, vC (.ptr 8 0))]) ?_ ?_
  · refine Tri.seq (Tri.go [] rfl trivial ?_)
    refine Tri.block ?_
    refine Tri.lp (fun z ρ hl => ∃ i x, z = ops.length - i ∧ i ≤ ops.length ∧ Iv h a i x ∧ hl = ssO x ++ [bx4 a 1000, bxV 0 [] []] ∧
      keepE ρ [0, 5, 6, 7, 8, 9] = some [(0, vD (lI .i64 ops)), (5, vC (.ptr 0 0)), (6, vC (.ptr 8 0)), (7, vC (.ptr 9 0)), (8, vB h), (9, vI .i64 i)]) ops.length ⟨0, x, by omega, by omega, v, rfl, keep_of rfl rfl⟩ ?_
    rintro z ρ hl' ⟨i, x, rfl, hi, v, rfl, hkk⟩
    refine Tri.keep _ hkk ?_
    by_cases hlt : i < ops.length
    · have hg : (rI .i64 ops)[i]? = some [.int .i64 ops[i]] := by simp [rI, hlt]
      have hb := hk _ (List.getElem_mem hlt)
      generalize ops[i] = k at *
      have hwi := within_ok (k := k) (n := 7) hb (by omega)
      have hdi := digit_ok (k := k) (d := 7) (n := 1099511627776) hb (by omega) (by omega)
      have hdr := digR k 7 (n := 1099511627776) (by omega)
      generalize dig k 7 1099511627776 = n at *
      have hr : k % 7 = 0 ∨ k % 7 = 1 ∨ k % 7 = 2 ∨ k % 7 = 3 ∨ k % 7 = 4 ∨ k % 7 = 5 ∨ k % 7 = 6 := by omega
      refine Tri.seq (Tri.go [.b 53 true] rfl ⟨decide_eq_true (by omega), trivial⟩ ?_)
      refine Tri.seq (Tri.block ?_)
      refine Tri.seq (Tri.tree (.a (.at [.int .i64 k]) (.f [] hdi .nil)) rfl ⟨⟨by omega, rfl, hg⟩, trivial, by simp [leVs, leP, leE, leC], ?_⟩)
      refine Tri.mid (fun ρ hl => ∃ x, Iv h a (i + 1) x ∧ hl = ssO x ++ [bx4 a 1000, bxV 0 [] []] ∧
        keepE ρ [0, 5, 6, 7, 8, 9] = some [(0, vD (lI .i64 ops)), (5, vC (.ptr 0 0)), (6, vC (.ptr 8 0)), (7, vC (.ptr 9 0)), (8, vB h), (9, vI .i64 i)]) ?_ ?_
      · refine Tri.seq (Tri.tree (.a (.at [.int .i64 k]) (.f [] hwi .nil)) rfl ⟨⟨by omega, rfl, hg⟩, trivial, by simp [leVs, leP, leE, leC], ?_⟩)
        rcases hr with hr | hr | hr | hr | hr | hr | hr
        · rw [hr]
          have hw := ssBegin_ok (x := x) (c := 1)
          refine Tri.tree (.a (.b 66 true) (.o [0, 1, 2, 3, 4, 5, 6, 7] [] hw .nil)) rfl ?_
          repeat ((with_reducible apply And.intro); focus (first | trivial | exact rfl | (simp [leVs, leP, leE, leEs, leL, leC, rI, rwC, rwS]; done)))
          exact ⟨_, v.begin.mono, rfl, keep_of rfl rfl⟩
        · rw [hr]
          have hn0 : n.tmod 1000 = n % 1000 := Int.tmod_eq_emod_of_nonneg hdr.1
          have hsp := span_ok (k := n.tmod 1000) (by rw [hn0]; constructor <;> omega)
          have hw := ssRead_ok (x := x) (c := 1) (sp := spanG (n.tmod 1000)) (v.go (by omega) 1)
          refine Tri.tree (.a (.b 66 false) (.a (.b 70 true) (.f [] hsp (.o [0, 1, 2, 3, 4, 5, 6, 7] [] hw .nil)))) rfl ?_
          repeat ((with_reducible apply And.intro); focus (first | trivial | exact rfl | omega | (simp [leVs, leP, leE, leEs, leL, leC, rI, rwC, rwS]; done)))
          exact ⟨_, (v.read spn_b).mono, rfl, keep_of rfl rfl⟩
        · rw [hr]
          have hce := cell_ok (k := n) (by constructor <;> omega)
          have hcg := cellG_ok n
          generalize cellG n = c at *
          have hw := ssWrite_ok (x := x) (c := 1) (l := [c]) (by simp) (v.go (by omega) 1)
          refine Tri.tree (.a (.b 66 false) (.a (.b 70 false) (.a (.b 77 true) (.f [] hce (.o [0, 1, 2, 3, 4, 5, 6, 7] [] hw .nil))))) rfl ?_
          repeat ((with_reducible apply And.intro); focus (first | trivial | exact rfl | (simp [leVs, leP, leE, leEs, leL, leC, rI, rwC, rwS]; done)))
          exact ⟨_, v.write (c := c) (by have := hcg.a; constructor <;> omega), rfl, keep_of rfl rfl⟩
        · rw [hr]
          have hw := ssCommit_ok (x := x) (c := 1) (v.go (by omega) 1)
          refine Tri.tree (.a (.b 66 false) (.a (.b 70 false) (.a (.b 77 false) (.a (.b 84 true) (.o [0, 1, 2, 3, 4, 5, 6, 7] [] hw .nil))))) rfl ?_
          repeat ((with_reducible apply And.intro); focus (first | trivial | exact rfl | (simp [leVs, leP, leE, leEs, leL, leC, rI, rwC, rwS]; done)))
          exact ⟨_, v.commit, rfl, keep_of rfl rfl⟩
        · rw [hr]
          have hw := ssAbort_ok (x := x) (c := 1)
          refine Tri.tree (.a (.b 66 false) (.a (.b 70 false) (.a (.b 77 false) (.a (.b 84 false) (.a (.b 88 true) (.o [0, 1, 2, 3, 4, 5, 6, 7] [] hw .nil)))))) rfl ?_
          repeat ((with_reducible apply And.intro); focus (first | trivial | exact rfl | (simp [leVs, leP, leE, leEs, leL, leC, rI, rwC, rwS]; done)))
          exact ⟨_, v.abort.mono, rfl, keep_of rfl rfl⟩
        · rw [hr]
          have hw := ssHear_ok (x := x) (c := 1)
          refine Tri.tree (.a (.b 66 false) (.a (.b 70 false) (.a (.b 77 false) (.a (.b 84 false) (.a (.b 88 false) (.a (.b 92 true) (.o [0, 1, 2, 3, 4, 5, 6, 7] [] hw .nil))))))) rfl ?_
          repeat ((with_reducible apply And.intro); focus (first | trivial | exact rfl | (simp [leVs, leP, leE, leEs, leL, leC, rI, rwC, rwS]; done)))
          exact ⟨_, v.hear.mono, rfl, keep_of rfl rfl⟩
        · rw [hr]
          have hw := ssClose_ok (x := x) (c := 1)
          refine Tri.tree (.a (.b 66 false) (.a (.b 70 false) (.a (.b 77 false) (.a (.b 84 false) (.a (.b 88 false) (.a (.b 92 false) (.a (.b 96 true) (.o [0, 1, 2, 3, 4, 5, 6, 7] [] hw .nil)))))))) rfl ?_
          repeat ((with_reducible apply And.intro); focus (first | trivial | exact rfl | (simp [leVs, leP, leE, leEs, leL, leC, rI, rwC, rwS]; done)))
          exact ⟨_, v.close.mono, rfl, keep_of rfl rfl⟩
      rintro ρ hl' ⟨x, v, rfl, hkk⟩
      refine Tri.keep _ hkk ?_
      have s1 := stA v
      have s2 := sEngine_ok (x := x)
      have s3 := vwA v (by omega)
      refine Tri.seq (Tri.tree (.o [0, 1, 2, 3, 4, 5, 6, 7] [] s2 (.o [1, 2, 3, 4] [] s3 .nil)) rfl ?_)
      repeat ((with_reducible apply And.intro); focus (first | trivial | exact rfl | (simp [leVs, leP, leE, leEs, leL, leC, rI, rwC, rwS]; done)))
      refine Tri.tree (.o [0, 1, 2, 3, 4, 5, 6, 7] [] s1 (.a (.b 110 false) (.a (.b 115 false) (.a (.b 122 false) (.a (.b 131 false) .nil))))) rfl ?_
      repeat ((with_reducible apply And.intro); focus (first | trivial | exact rfl | (simp [leVs, leP, leE, leEs, leL, leC, rI, rwC, rwS]; done)))
      refine Tri.let [0, 1, 2, 3, 4, 5, 6, 7, 8, 9] [] [0, 5, 6, 7, 8, 9] rfl trivial ?_
      exact Tri.go [] rfl ⟨by omega, trivial⟩ (again (ops.length - (i + 1)) (by omega) ⟨i + 1, x, rfl, by omega, v, rfl, keep_of rfl (by simp)⟩)
    · have : i = ops.length := by omega
      subst this
      exact Tri.seq (Tri.go [.b 53 false] rfl ⟨decide_eq_false (by omega), trivial⟩ ⟨x, v, rfl, keep_of rfl rfl⟩)
  rintro ρ hl' ⟨x, v, rfl, hkk⟩
  refine Tri.keep _ hkk ?_
  have s1 := stB v
  refine Tri.treeR (.a (.b 135 true) (.o [0, 1, 2, 3, 4, 5, 6, 7] [] s1 .nil)) rfl ?_
  repeat' apply And.intro
  all_goals first | trivial | rfl | exact .refl _ | exact leP_refl _ | (simp [leVs, leP, leE, leEs, leL, leC, rI]; done)
end Go.Proofs.Ytpnbncdclgmegaa
