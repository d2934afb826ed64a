/-
  SessLeases.
-/
import Derived.Test.YtpnbncdclgmegaaS8
import Derived.Test.YtpnbncdclgmegaaL3s
set_option maxRecDepth 100000
set_option maxHeartbeats 1000000
set_option linter.unusedVariables false
set_option linter.unusedSimpArgs false
namespace Go.Proofs.Ytpnbncdclgmegaa
open Go.RowKit

abbrev lE : En := ⟨2, 20, 20⟩
abbrev lS : St := ⟨0, 0, 100, []⟩
/-- Open, with n ticks left. -/
abbrev lx (T : Int) (W : List Cel) (n : Int) : Ss := ⟨T, lE, lS, ⟨1, [(0, 5, ⟨0, [], W⟩)]⟩, ⟨1, [(0, 5, n)]⟩, ⟨1, [(0, 5, ⟨1, 0, 0, 0⟩)]⟩⟩
abbrev lDe (T : Int) : Ss := ⟨T, lE, lS, ⟨1, []⟩, ⟨1, []⟩, ⟨1, [(0, 5, ⟨2, 3, 0, 0⟩)]⟩⟩
abbrev lNw (T : Int) : Ss := ⟨T, lE, lS, ⟨2, [(1, 5, ⟨0, [], []⟩)]⟩, ⟨2, [(1, 5, T)]⟩, ⟨1, [(0, 5, ⟨1, 0, 0, 0⟩)]⟩⟩
theorem l_tick {T n : Int} {W : List Cel} (h : 2 ≤ n) (h2 : n ≤ 65535) : FnOk Try.prog 44 [vC (.ptr 0 0)] (ssO (lx T W n)) (lN []) (ssO (lx T W (n - 1))) := by
  refine sO_tick (y := lx T W (n - 1)) (bkWf_one (c := 0) (by omega) (by omega)) (by simp) ?_
  have hn : decide (n ≤ 1) = false := decide_eq_false (by omega)
  have e1 : (lx T W n).b.out = [] := by simp [Bk.out, hn]
  have e2 : (lx T W n).b.tick = ⟨1, [(0, 5, n - 1)]⟩ := by simp [Bk.tick, hn]
  unfold stickR
  rw [e1, e2]
  rfl
theorem lS_go : StGo lS := stGo_small rfl ⟨by decide, by decide⟩ ⟨by decide, by decide⟩ ⟨by decide, by decide⟩
theorem sessLeases_ok {k : Int} {gs : List Int} {wr : Bool} (hk : b64 k) (hg : ∀ x ∈ gs, b64 x) (hm : gs.length ≤ 9223372036854775807) : FnOk Try.prog 9 [vI .i64 k, vD (lI .i64 gs), vB wr] [] (vB true) [] := by
  have ha := awake24_ok
  by_cases hn : 12 < gs.length
  · refine FnOk.tree t9 (.a (.b 22 true) (.a (.b 25 true) (.f [] ha .nil))) rfl rfl rfl rfl ?_
    repeat' apply And.intro
    all_goals first | trivial | rfl | (exact decide_eq_true (by omega)) | (simp [leVs, leP, leE, leL, leC]; done)
  have hw := within_ok (k := k) (n := 30) hk (by omega)
  obtain ⟨T, hT⟩ : ∃ T, 1 + k % 30 = T := ⟨_, rfl⟩
  have hT1 : 1 ≤ T ∧ T ≤ 30 := by omega
  have hcap : capT T = T := by unfold capT; split <;> split <;> omega
  obtain ⟨W, hW⟩ : ∃ W : List Cel, W = (if wr then [(2, 3, 9)] else []) := ⟨_, rfl⟩
  have hVw : VwOk ⟨0, [], W⟩ := by
    rw [hW]
    cases wr
    · exact ⟨by decide, by decide, by simp, by simp⟩
    · exact ⟨by decide, by decide, by simp, fun x hx => by simp at hx; subst hx; exact ⟨by decide, by decide⟩⟩
  have h1 : FnOk Try.prog 31 [vI .i64 2, vI .i64 20, vI .i64 20, vI .i64 100, vI .i64 T] [] (vC (.ptr 0 0)) (ssO ⟨T, lE, lS, ⟨0, []⟩, ⟨0, []⟩, ⟨0, []⟩⟩) := by
    have := made24_ok (a := 2) (b := 20) (c := 20) (r := 100) (t := T)
    unfold ss0 at this
    rw [hcap] at this
    exact this
  have h2 := sO_begin (x := ⟨T, lE, lS, ⟨0, []⟩, ⟨0, []⟩, ⟨0, []⟩⟩) (y := lx T [] T) (c := 5) (r := 0) rfl
  have h3 := sO_write (x := lx T [] T) (y := lx T [(2, 3, 9)] T) (c := 5) (l := [(2, 3, 9)]) (r := 0) (by decide) ⟨lS_go, vwOk_one rfl ⟨by decide, by decide, by simp, by simp⟩⟩ (by kernel_rfl)
  have hhear : ∀ n : Int, FnOk Try.prog 43 [vC (.ptr 0 0), vI .i64 5] (ssO (lx T W n)) (.tup []) (ssO (lx T W T)) := fun n => ssHear_ok (x := lx T W n) (c := 5)
  refine FnOk.start t9 rfl rfl rfl ?_
  refine Tri.seq (Tri.go [] rfl trivial ?_)
  refine Tri.seq (Tri.tree (.a (.b 22 false) (.f [] ha (.a (.b 25 false) .nil))) rfl ⟨decide_eq_false (by omega), trivial, by simp [leVs], rfl, ?_⟩)
  refine Tri.seq (Tri.tree (.f [] hw .nil) rfl ?_)
  repeat ((with_reducible apply And.intro); focus (first | trivial | exact rfl | omega | (simp [leVs, leP, leE, leEs, leL, leC, rI, rwC, rwS]; done)))
  rw [hT]
  refine Tri.seq (Tri.tree (.o [] [] h1 .nil) rfl ?_)
  repeat ((with_reducible apply And.intro); focus (first | trivial | exact rfl | omega | (simp [leVs, leP, leE, leEs, leL, leC, rI, rwC, rwS]; done)))
  refine Tri.seq (Tri.tree (.o [0, 1, 2, 3, 4, 5, 6, 7] [] h2 (.a (.b 38 false) .nil)) rfl ?_)
  repeat ((with_reducible apply And.intro); focus (first | trivial | exact rfl | omega | (simp [leVs, leP, leE, leEs, leL, leC, rI, rwC, rwS]; done)))
  refine Tri.seq (Tri.go [] rfl ⟨⟨⟨rfl, by decide⟩, trivial⟩, trivial⟩ ?_)
  refine Tri.mid (fun ρ hl => hl = ssO (lx T W T) ∧ keepE ρ [0, 1, 7, 8] = some [(0, vI .i64 T), (1, vD (lI .i64 gs)), (7, vC (.ptr 0 0)), (8, vCl [(2, 3, 9)])]) ?_ ?_
  · cases wr
    · simp only [Bool.false_eq_true, if_false] at hW
      subst hW
      exact Tri.go [.b 43 false, .b 48 false] rfl ⟨rfl, rfl, trivial⟩ ⟨rfl, keep_of rfl rfl⟩
    · simp only [if_true] at hW
      subst hW
      refine Tri.tree (.a (.b 43 true) (.o [0, 1, 2, 3, 4, 5, 6, 7] [] h3 (.a (.b 48 false) .nil))) rfl ?_
      repeat ((with_reducible apply And.intro); focus (first | trivial | exact rfl | omega | (simp [leVs, leP, leE, leEs, leL, leC, rI, rwC, rwS]; done)))
      exact ⟨rfl, keep_of rfl rfl⟩
  rintro ρ hl' ⟨rfl, hkk⟩
  refine Tri.keep _ hkk ?_
  refine Tri.mid (fun ρ hl => hl = ssO (lx T W T) ∧ keepE ρ [0, 7, 8] = some [(0, vI .i64 T), (7, vC (.ptr 0 0)), (8, vCl [(2, 3, 9)])]) ?_ ?_
  · refine Tri.seq (Tri.go [] rfl trivial ?_)
    refine Tri.block ?_
    refine Tri.lp (fun z ρ hl => ∃ i, z = gs.length - i ∧ i ≤ gs.length ∧ hl = ssO (lx T W T) ∧
      keepE ρ [0, 1, 7, 8, 9] = some [(0, vI .i64 T), (1, vD (lI .i64 gs)), (7, vC (.ptr 0 0)), (8, vCl [(2, 3, 9)]), (9, vI .i64 i)]) gs.length ⟨0, by omega, by omega, rfl, keep_of rfl rfl⟩ ?_
    rintro z ρ hl' ⟨i, rfl, hi, rfl, hkk⟩
    refine Tri.keep _ hkk ?_
    by_cases h : i < gs.length
    · have hgi : (rI .i64 gs)[i]? = some [.int .i64 gs[i]] := by simp [rI, h]
      have hb := hg _ (List.getElem_mem h)
      generalize gs[i] = x at *
      have hwi := within_ok (k := x) (n := T) hb (by omega)
      have hx1 := Int.emod_nonneg x (show T ≠ 0 by omega)
      have hx2 := Int.emod_lt_of_pos x (show 0 < T by omega)
      obtain ⟨m, hmx⟩ : ∃ m : Nat, x % T = m := ⟨(x % T).toNat, by omega⟩
      rw [hmx] at hwi
      refine Tri.seq (Tri.go [.b 52 true] rfl ⟨decide_eq_true (by omega), trivial⟩ ?_)
      refine Tri.seq (Tri.block ?_)
      refine Tri.mid (fun ρ hl => hl = ssO (lx T W (T - m)) ∧ keepE ρ [0, 1, 7, 8, 9] = some [(0, vI .i64 T), (1, vD (lI .i64 gs)), (7, vC (.ptr 0 0)), (8, vCl [(2, 3, 9)]), (9, vI .i64 i)]) ?_ ?_
      · refine Tri.seq (Tri.go [] rfl trivial ?_)
        refine Tri.block ?_
        refine Tri.lp (fun z ρ hl => ∃ q : Nat, z = m - q ∧ q ≤ m ∧ hl = ssO (lx T W (T - q)) ∧
          keepE ρ [0, 1, 7, 8, 9, 10] = some [(0, vI .i64 T), (1, vD (lI .i64 gs)), (7, vC (.ptr 0 0)), (8, vCl [(2, 3, 9)]), (9, vI .i64 i), (10, vI .i64 q)]) m ⟨0, by omega, by omega, by simp, keep_of rfl rfl⟩ ?_
        rintro z ρ hl' ⟨q, rfl, hq, rfl, hkk⟩
        refine Tri.keep _ hkk ?_
        by_cases hqm : q < m
        · have ht := l_tick (T := T) (n := T - q) (W := W) (by omega) (by omega)
          refine Tri.seq (Tri.tree (.a (.at [.int .i64 x]) (.f [] hwi (.a (.b 62 true) .nil))) rfl ?_)
          repeat ((with_reducible apply And.intro); focus (first | trivial | exact rfl | omega | exact ⟨by omega, rfl, hgi⟩ | (exact decide_eq_true (by omega)) | (simp [leVs, leP, leE, leEs, leL, leC, rI, rwC, rwS]; done)))
          refine Tri.seq (Tri.block (Tri.tree (.o [0, 1, 2, 3, 4, 5, 6, 7] [] ht (.a (.b 68 false) .nil)) rfl ?_))
          repeat ((with_reducible apply And.intro); focus (first | trivial | exact rfl | omega | (simp [leVs, leP, leE, leEs, leL, leC, rI, rwC, rwS]; done)))
          have e : T - (q : Int) - 1 = T - ((q + 1 : Nat) : Int) := by omega
          rw [e]
          exact Tri.go [] rfl ⟨by omega, trivial⟩ (again (m - (q + 1)) (by omega) ⟨q + 1, rfl, by omega, rfl, keep_of rfl (by simp)⟩)
        · have : q = m := by omega
          subst this
          refine Tri.seq (Tri.tree (.a (.at [.int .i64 x]) (.f [] hwi (.a (.b 62 false) .nil))) rfl ?_)
          repeat ((with_reducible apply And.intro); focus (first | trivial | exact rfl | omega | exact ⟨by omega, rfl, hgi⟩ | (exact decide_eq_false (by omega)) | (simp [leVs, leP, leE, leEs, leL, leC, rI, rwC, rwS]; done)))
          exact And.intro rfl (keep_of rfl rfl)
      · rintro ρ hl' ⟨rfl, hkk⟩
        refine Tri.keep _ hkk ?_
        refine Tri.tree (.o [0, 1, 2, 3, 4, 5, 6, 7] [] (hhear (T - m)) .nil) rfl ?_
        repeat ((with_reducible apply And.intro); focus (first | trivial | exact rfl | omega | (simp [leVs, leP, leE, leEs, leL, leC, rI, rwC, rwS]; done)))
        exact Tri.go [] rfl ⟨by omega, trivial⟩ (again (gs.length - (i + 1)) (by omega) ⟨i + 1, rfl, by omega, rfl, keep_of rfl (by simp)⟩)
    · have : i = gs.length := by omega
      subst this
      exact Tri.seq (Tri.go [.b 52 false] rfl ⟨decide_eq_false (by omega), trivial⟩ (And.intro rfl (keep_of rfl rfl)))
  rintro ρ hl' ⟨rfl, hkk⟩
  refine Tri.keep _ hkk ?_
  refine Tri.mid (fun ρ hl => hl = ssO (lx T W 1) ∧ keepE ρ [7, 8] = some [(7, vC (.ptr 0 0)), (8, vCl [(2, 3, 9)])]) ?_ ?_
  · refine Tri.seq (Tri.go [] rfl trivial ?_)
    refine Tri.block ?_
    refine Tri.lp (fun z ρ hl => ∃ q : Nat, z = T.toNat - q ∧ 1 ≤ q ∧ q ≤ T.toNat ∧ hl = ssO (lx T W (T - q + 1)) ∧
      keepE ρ [0, 7, 8, 11] = some [(0, vI .i64 T), (7, vC (.ptr 0 0)), (8, vCl [(2, 3, 9)]), (11, vI .i64 q)]) (T.toNat - 1) ⟨1, by omega, by omega, by omega, by simp, keep_of rfl rfl⟩ ?_
    rintro z ρ hl' ⟨q, rfl, hq1, hq, rfl, hkk⟩
    refine Tri.keep _ hkk ?_
    by_cases hqm : q < T.toNat
    · have ht := l_tick (T := T) (n := T - q + 1) (W := W) (by omega) (by omega)
      have hst := sO_state (x := lx T W (T - q + 1 - 1)) (c := 5) (v := ⟨1, 0, 0, 0⟩) rfl
      refine Tri.seq (Tri.go [.b 73 true] rfl ⟨decide_eq_true (by omega), trivial⟩ ?_)
      refine Tri.seq (Tri.block (Tri.tree (.o [0, 1, 2, 3, 4, 5, 6, 7] [] ht (.a (.b 80 false) (.o [0, 1, 2, 3, 4, 5, 6, 7] [] hst (.a (.b 85 false) .nil)))) rfl ?_))
      repeat ((with_reducible apply And.intro); focus (first | trivial | exact rfl | omega | (simp [leVs, leP, leE, leEs, leL, leC, rI, rwC, rwS]; done)))
      have e : T - (q : Int) + 1 - 1 = T - ((q + 1 : Nat) : Int) + 1 := by omega
      rw [e]
      exact Tri.go [] rfl ⟨by omega, trivial⟩ (again (T.toNat - (q + 1)) (by omega) ⟨q + 1, rfl, by omega, by omega, rfl, keep_of rfl (by simp)⟩)
    · have hqT : (q : Int) = T := by omega
      refine Tri.seq (Tri.go [.b 73 false] rfl ⟨decide_eq_false (by omega), trivial⟩ (And.intro ?_ (keep_of rfl rfl)))
      rw [hqT]
      simp
  rintro ρ hl' ⟨rfl, hkk⟩
  refine Tri.keep _ hkk ?_
  have c1 := sO_tick (x := lx T W 1) (y := lDe T) (l := [5]) (bkWf_one (c := 0) (by omega) (by omega)) (by simp) rfl
  have c2 : FnOk Try.prog 43 [vC (.ptr 0 0), vI .i64 5] (ssO (lDe T)) (.tup []) (ssO (lDe T)) := ssHear_ok (x := lDe T) (c := 5)
  have c3 := sO_read (x := lDe T) (y := lDe T) (c := 5) (sp := (2, 3, 4)) (l := []) (r := 5) (ssGo_none lS_go rfl) rfl
  have c4 := sO_state (x := lDe T) (c := 5) (v := ⟨2, 3, 0, 0⟩) rfl
  have c5 := sEngine_ok (x := lDe T)
  have c6 := eStore_ok (e := lE) (s := lS) (M := ⟨1, []⟩)
  have c7 := same_ok (l := [5]) (m := [5]) (by decide) (by decide)
  have c8 := sO_write (x := lDe T) (y := lDe T) (c := 5) (l := [(2, 3, 9)]) (r := 5) (by decide) (ssGo_none lS_go rfl) rfl
  have c9 := sO_commit (x := lDe T) (y := lDe T) (c := 5) (r := 5) (ssGo_none lS_go rfl) rfl
  have c10 := sO_abort (x := lDe T) (y := lDe T) (c := 5) (r := 5) rfl
  have c11 := sLast_ok (s := lS)
  have c12 := sVers_ok (s := lS)
  have c13 := noOwners (e := lE) (s := lS) (ck := 1)
  have c14 := sO_begin (x := lDe T) (y := lNw T) (c := 5) (r := 0) rfl
  have c15 := sO_state (x := lNw T) (c := 5) (v := ⟨1, 0, 0, 0⟩) rfl
  have c16 := sO_read (x := lNw T) (y := ⟨T, lE, lS, ⟨2, [(1, 5, ⟨0, [(2, 3, 4)], []⟩)]⟩, ⟨2, [(1, 5, T)]⟩, ⟨1, [(0, 5, ⟨1, 0, 0, 0⟩)]⟩⟩) (c := 5) (sp := (2, 3, 4)) (l := [0]) (r := 0) ⟨lS_go, vwOk_one rfl ⟨by decide, by decide, by simp, by simp⟩⟩ (by kernel_rfl)
  refine Tri.treeR (.o [0, 1, 2, 3, 4, 5, 6, 7] [] c1 (.o [0, 1, 2, 3, 4, 5, 6, 7] [] c2 (.o [0, 1, 2, 3, 4, 5, 6, 7] [] c3 (.o [0, 1, 2, 3, 4, 5, 6, 7] [] c4 (.o [0, 1, 2, 3, 4, 5, 6, 7] [] c5 (.o [1, 2, 3, 4] [] c6 (.f [] c7 (.a (.b 105 false) (.a (.b 110 false) (.a (.b 115 false) (.a (.b 120 false) (.a (.b 124 false) (.o [0, 1, 2, 3, 4, 5, 6, 7] [] c8 (.a (.b 130 false) (.o [0, 1, 2, 3, 4, 5, 6, 7] [] c9 (.a (.b 135 false) (.o [0, 1, 2, 3, 4, 5, 6, 7] [] c10 (.a (.b 140 false) (.o [2, 3] [] c11 (.a (.b 145 false) (.o [2, 3] [] c12 (.a (.b 150 false) (.o [0, 1, 2, 3, 4, 5, 6, 7] [] c5 (.o [1, 2, 3, 4] [] c13 (.a (.b 156 false) (.o [0, 1, 2, 3, 4, 5, 6, 7] [] c14 (.a (.b 160 false) (.o [0, 1, 2, 3, 4, 5, 6, 7] [] c15 (.a (.b 166 false) (.o [0, 1, 2, 3, 4, 5, 6, 7] [] c15 (.a (.b 171 false) (.o [0, 1, 2, 3, 4, 5, 6, 7] [] c16 (.a (.b 180 true) (.a (.b 185 true) (.a (.at [.int .u16 0]) .nil))))))))))))))))))))))))))))))))))) rfl ?_
  repeat' apply And.intro
  all_goals first | trivial | rfl | exact .refl _ | exact leP_refl _ | omega | (simp [leVs, leP, leE, leEs, leL, leC, rI, rwC]; done)
end Go.Proofs.Ytpnbncdclgmegaa
