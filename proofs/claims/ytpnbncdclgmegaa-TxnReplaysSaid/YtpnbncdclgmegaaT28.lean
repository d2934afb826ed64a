/-
  TxnReplays.
-/
import Derived.Test.YtpnbncdclgmegaaT27
set_option maxRecDepth 100000
set_option maxHeartbeats 2000000
set_option linter.unusedVariables false
set_option linter.unusedSimpArgs false
namespace Go.Proofs.Ytpnbncdclgmegaa
open Go.RowKit

theorem Tri.pad {P : Program} {N n0 : Nat} {ρ : Env} {hl : List Ob} {Q : Exit → Env → List Ob → Prop} {c : AC} (h : Tri P N n0 c ρ (hl ++ [.dead]) Q) : Tri P N n0 c ρ hl Q := by
  intro code hc w0 g0 h0 df a w ⟨h1, h2, h3, g, hR, hμ, he, hF⟩
  have e : hx (hl ++ [.dead]) = hx hl := by
    funext i
    simp only [hx, List.getD_eq_getElem?_getD]
    by_cases hi : i < hl.length
    · rw [List.getElem?_append_left hi]
    · rw [List.getElem?_eq_none (l := hl) (by omega), List.getElem?_append_right (by omega)]
      by_cases hi2 : i - hl.length = 0
      · rw [hi2]; rfl
      · rw [List.getElem?_eq_none (by simp; omega)]
  exact h code hc w0 g0 h0 df a w ⟨h1, h2, by simp; omega, g, by rw [e]; exact hR, fun i hi => hμ i (by simp at hi; omega), he, by rw [e]; exact hF⟩
theorem Tri.wkB {P : Program} {N n0 : Nat} {ρ : Env} {hl hl' : List Ob} {Q : Exit → Env → List Ob → Prop} {c : AC} (hle : LeOs hl hl') (h : Tri P N n0 c ρ hl' Q) : Tri P N n0 c ρ hl Q := by
  intro code hc w0 g0 h0 df a w ⟨h1, h2, h3, g, hR, hμ, he, hF⟩
  exact h code hc w0 g0 h0 df a w ⟨h1, h2, hle.len ▸ h3, g, hR.le hle.at, fun i hi => hμ i (by rw [hle.len]; exact hi), he, hF.keeps, hF.I, hF.In, hF.μ, fun b ⟨i, i1, i2⟩ => hF.own b ⟨i, (hle.at i).le_live.symm.trans i1, i2⟩⟩
def cX (j : Nat) (o : Bool) (l : List Act) : C := match o with
  | true => .sl (5 + j) 0 l.length
  | false => .t (.ls 4 l.length (rA l))
def cA (o : Bool) (l : List Act) : Ob := match o with
  | true => .arr 4 (rA l)
  | false => .dead
abbrev hlO (s : St) (M : Mo) (l0 l1 l2 : List Act) (did : List Deed) (o0 o1 o2 : Bool) : List Ob :=
  [stB s 1, stM s, enL rE9, eM M, .box [cX 0 o0 l0, cX 1 o1 l1, cX 2 o2 l2], cA o0 l0, cA o1 l1, cA o2 l2, .arr 3 (rDd did)]
theorem txnReplays_ok {ops : List Int} (hk : ∀ x ∈ ops, b64 x) (hm : ops.length ≤ 9223372036854775807) : FnOk Try.prog 3 [vD (lI .i64 ops)] [] (vB true) [] := by
  have ha := awake21_ok
  by_cases hn : 80 < ops.length
  · refine FnOk.tree t3 (.a (.b 20 true) (.a (.b 23 true) (.f [] ha .nil))) rfl rfl rfl rfl ?_
    repeat' apply And.intro
    all_goals first | trivial | rfl | (exact decide_eq_true (by omega)) | (simp [leVs, leP, leE, leL, leC]; done)
  have hX : True := trivial
  have h1 : FnOk Try.prog 12 [vI .u64 0, vI .i64 10000] [] (vC (.ptr 0 0)) [stB ⟨0, 0, 10000, []⟩ 1, stM ⟨0, 0, 10000, []⟩] := sNew_ok (a := 0) (m := 10000)
  have h2 : FnOk Try.prog 13 [vC (.ptr 0 0), vI .i64 9, vI .i64 100, vI .i64 100] [stB ⟨0, 0, 10000, []⟩ 1, stM ⟨0, 0, 10000, []⟩] (vC (.ptr 2 0)) [stB ⟨0, 0, 10000, []⟩ 1, stM ⟨0, 0, 10000, []⟩, enL rE9, eM ⟨0, []⟩] := eNew_ok (a := 9) (b := 100) (c := 100)
  refine FnOk.start t3 rfl rfl rfl ?_
  refine Tri.seq (Tri.go [] rfl trivial ?_)
  refine Tri.seq (Tri.tree (.a (.b 20 false) (.f [] ha (.a (.b 23 false) .nil))) rfl ⟨decide_eq_false (by omega), trivial, by simp [leVs], rfl, ?_⟩)
  refine Tri.seq (Tri.tree (.o [] [] h1 .nil) rfl ?_)
  repeat ((with_reducible apply And.intro); focus (first | exact True.intro | exact ⟨.inr rfl, rfl, by simp, by simp, by omega, by omega⟩ | (simp [leVs, leP, leE, leEs, leL, leC, rI, rwC, rwS, hX]; done) | omega | exact rfl))
  refine Tri.seq (Tri.go [] rfl ⟨trivial, trivial⟩ ?_)
  refine Tri.seq (Tri.tree (.o [0, 1] [] h2 .nil) rfl ?_)
  repeat ((with_reducible apply And.intro); focus (first | exact True.intro | exact ⟨.inr rfl, rfl, by simp, by simp, by omega, by omega⟩ | (simp [leVs, leP, leE, leEs, leL, leC, rI, rwC, rwS, hX]; done) | omega | exact rfl))
  refine Tri.seq (Tri.go [] rfl ⟨trivial, trivial⟩ ?_)
  refine Tri.seq (Tri.go [] rfl trivial ?_)
  refine Tri.seq (Tri.go [] rfl trivial ?_)
  refine Tri.pad (Tri.pad (Tri.pad ?_))
  refine Tri.own 6 3 (by omega) rfl ?_
  refine Tri.wkB (hl' := hlO ⟨0, 0, 10000, []⟩ ⟨0, []⟩ [] [] [] [] false false false) (.cons (.refl _) (.cons (.refl _) (.cons (.refl _) (.cons (.refl _) (.cons (.box (.cons (.t (.nil _)) (.cons (.t (.nil _)) (.cons (.t (.nil _)) .nil)))) (.refl _)))))) ?_
  refine Tri.mid (fun ρ hl => ∃ (i : Nat) (s : St) (M : Mo) (cur : Int → List Act) (did : List Deed) (o0 o1 o2 : Bool), i ≤ 80 ∧ RI i s M cur did ∧ hl = hlO s M (cur 0) (cur 1) (cur 2) did o0 o1 o2 ∧ keepE ρ [6] = some [(6, vC (.sl 8 0 did.length))]) ?_ ?_
  · refine Tri.seq (Tri.go [] rfl trivial ?_)
    refine Tri.block ?_
    refine Tri.lp (fun z ρ hl => ∃ (i : Nat) (s : St) (M : Mo) (cur : Int → List Act) (did : List Deed) (o0 o1 o2 : Bool), z = ops.length - i ∧ i ≤ ops.length ∧ RI i s M cur did ∧ ((M.get 0).isSome = o0 ∧ (M.get 1).isSome = o1 ∧ (M.get 2).isSome = o2) ∧ hl = hlO s M (cur 0) (cur 1) (cur 2) did o0 o1 o2 ∧
      keepE ρ [0, 3, 4, 5, 6, 7] = some [(0, vD (lI .i64 ops)), (3, vC (.ptr 0 0)), (4, vC (.ptr 2 0)), (5, vC (.ptr 4 0)), (6, vC (.sl 8 0 did.length)), (7, vI .i64 i)]) ops.length
      ⟨0, ⟨0, 0, 10000, []⟩, ⟨0, []⟩, fun _ => [], [], false, false, false, by omega, by omega, .start, ⟨rfl, rfl, rfl⟩, rfl, keep_of rfl rfl⟩ ?_
    rintro z ρ hl' ⟨i, s, M, cur, did, o0, o1, o2, rfl, hi, hI, hos, rfl, hkk⟩
    refine Tri.keep _ hkk ?_
    by_cases h : i < ops.length
    · have hi80 : i ≤ 80 := by omega
      have hg : (rI .i64 ops)[i]? = some [.int .i64 ops[i]] := by simp [rI, h]
      have hb := hk _ (List.getElem_mem h)
      generalize ops[i] = k at *
      have hd1 := digit_ok (k := k) (d := 5) (n := 3) hb (by omega) (by omega)
      have hd2 := digit_ok (k := k) (d := 15) (n := 1099511627776) hb (by omega) (by omega)
      have r1 := digR k 5 (n := 3) (by omega)
      have r2 := digR k 15 (n := 1099511627776) (by omega)
      have hw5 := within_ok (k := k) (n := 5) hb (by omega)
      have hr : k % 5 = 0 ∨ k % 5 = 1 ∨ k % 5 = 2 ∨ k % 5 = 3 ∨ k % 5 = 4 := by omega
      generalize dig k 5 3 = c at *
      generalize dig k 15 1099511627776 = n at *
      have hkey := key_ok (k := n) (by constructor <;> omega)
      have hcell := cell_ok (k := n) (by constructor <;> omega)
      have hcG := cellG_ok n
      have hkG : (cellG n).1 = (keyG n).1 ∧ (cellG n).2.1 = (keyG n).2 := ⟨rfl, rfl⟩
      have ht := hcG.t
      have had := hcG.ad
      rw [hkG.1] at ht
      rw [hkG.2] at had
      generalize cellG n = x at *
      generalize keyG n = K at *
      obtain ⟨kt, kad⟩ := K
      simp only at ht had
      have hgo := hI.go hi80
      have hvw := hI.vw hi80 (c := c)
      generalize hop : k % 5 = op at *
      have hc : c = 0 ∨ c = 1 ∨ c = 2 := by omega
      obtain ⟨e0, e1, e2⟩ := hos
      have hnd := hI.nd
      have hal0 := hI.al 0
      have hal1 := hI.al 1
      have hal2 := hI.al 2
      have hdl := hI.dl
      cases o0 <;> cases o1 <;> cases o2 <;> (
        refine Tri.seq (Tri.go [.b 35 true] rfl ⟨decide_eq_true (by omega), trivial⟩ ?_)
        refine Tri.seq (Tri.block ?_)
        refine Tri.seq (Tri.tree (.a (.at [.int .i64 k]) (.f [] hd1 (.a (.at [.int .i64 k]) (.f [] hd2 .nil)))) rfl ?_)
        repeat ((with_reducible apply And.intro); focus (first | exact True.intro | exact ⟨by omega, rfl, hg⟩ | (simp [leVs, leP, leE, leEs, leL, leC, rI]; done) | omega | exact rfl))
        refine Tri.seq (Tri.tree (.f [] hkey .nil) rfl ?_)
        repeat ((with_reducible apply And.intro); focus (first | exact True.intro | exact ⟨.inr rfl, rfl, by simp, by simp, by omega, by omega⟩ | (simp [leVs, leP, leE, leEs, leL, leC, rI, rwC, rwS, hX]; done) | omega | exact rfl))
        refine Tri.seq (Tri.tree (.a (.at [.int .i64 k]) (.f [] hw5 .nil)) rfl ?_)
        repeat ((with_reducible apply And.intro); focus (first | exact True.intro | exact ⟨by omega, rfl, hg⟩ | (simp [leVs, leP, leE, leEs, leL, leC, rI]; done) | omega | exact rfl))
        rcases hc with rfl | rfl | rfl
        · rcases hr with rfl | rfl | rfl | rfl | rfl
          · cases hv : M.get 0 with
            | none =>
              first
              | (exfalso; simp [hv] at e0; done)
              | (
                by_cases h9 : (9 : Int) ≤ M.es.length
                · have hb0 := eO_begin (e := rE9) (s := s) (M := M) (M' := M) (k := 0) (r := 4) (by unfold begR; rw [hv]; simp [h9])
                  refine Tri.block ?_
                  refine Tri.tree (.a (.b 55 true) (.o [2, 0, 1, 3] [] hb0 (.a (.b 60 false) .nil))) rfl ?_
                  repeat ((with_reducible apply And.intro); focus (first | exact True.intro | exact ⟨.inr rfl, rfl, by simp, by simp, by omega, by omega⟩ | (simp [leVs, leP, leE, leEs, leL, leC, rI, rwC, rwS, hX]; done) | omega | exact rfl))
                  have f0 := e0
                  have f1 := e1
                  have f2 := e2
                  refine Tri.let [0, 1, 2, 3, 4, 5, 6, 7, 8] [] [0, 3, 4, 5, 6, 7] rfl trivial ?_
                  exact Tri.go [] rfl ⟨by omega, trivial⟩ (again (ops.length - (i + 1)) (by omega) ⟨i + 1, s, M, cur, did, _, _, _, rfl, by omega, hI.mono, ⟨rfl, rfl, rfl⟩, by simp [hlO, cX, cA, upd, rA, rDd, rowD, f0, f1, f2] <;> omega, keep_of rfl (by simp)⟩)
                · have hb0 := eO_begin (e := rE9) (s := s) (M := M) (M' := M.set 0 ⟨s.last, [], []⟩) (k := 0) (r := 0) (by unfold begR; rw [hv]; simp [h9])
                  refine Tri.block ?_
                  refine Tri.tree (.a (.b 55 true) (.o [2, 0, 1, 3] [] hb0 (.a (.b 60 true) .nil))) rfl ?_
                  repeat ((with_reducible apply And.intro); focus (first | exact True.intro | exact ⟨.inr rfl, rfl, by simp, by simp, by omega, by omega⟩ | (simp [leVs, leP, leE, leEs, leL, leC, rI, rwC, rwS, hX]; done) | omega | exact rfl))
                  refine Tri.ownB 4 0 4 (by omega) rfl rfl ?_
                  have f0 : ((M.set 0 ⟨s.last, [], []⟩).get 0).isSome = true := by rw [Mo.get_set_eq]; rfl
                  have f1 := (congrArg Option.isSome (Mo.get_set_ne (M := M) (k := 0) (j := 1) (v := ⟨s.last, [], []⟩) (by decide))).trans e1
                  have f2 := (congrArg Option.isSome (Mo.get_set_ne (M := M) (k := 0) (j := 2) (v := ⟨s.last, [], []⟩) (by decide))).trans e2
                  refine Tri.let [0, 1, 2, 3, 4, 10, 6, 7, 8] [] [0, 3, 4, 5, 6, 7] rfl trivial ?_
                  exact Tri.go [] rfl ⟨by omega, trivial⟩ (again (ops.length - (i + 1)) (by omega) ⟨i + 1, s, _, _, did, _, _, _, rfl, by omega, hI.begin (c := 0), ⟨rfl, rfl, rfl⟩, by simp [hlO, cX, cA, upd, rA, rDd, rowD, f0, f1, f2] <;> omega, keep_of rfl (by simp)⟩)
                )
            | some v =>
              first
              | (exfalso; simp [hv] at e0; done)
              | (
                have hb0 := eO_begin (e := rE9) (s := s) (M := M) (M' := M) (k := 0) (r := 6) (by unfold begR; rw [hv]; rfl)
                refine Tri.block ?_
                refine Tri.tree (.a (.b 55 true) (.o [2, 0, 1, 3] [] hb0 (.a (.b 60 false) .nil))) rfl ?_
                repeat ((with_reducible apply And.intro); focus (first | exact True.intro | exact ⟨.inr rfl, rfl, by simp, by simp, by omega, by omega⟩ | (simp [leVs, leP, leE, leEs, leL, leC, rI, rwC, rwS, hX]; done) | omega | exact rfl))
                have f0 := e0
                have f1 := e1
                have f2 := e2
                refine Tri.let [0, 1, 2, 3, 4, 5, 6, 7, 8] [] [0, 3, 4, 5, 6, 7] rfl trivial ?_
                exact Tri.go [] rfl ⟨by omega, trivial⟩ (again (ops.length - (i + 1)) (by omega) ⟨i + 1, s, M, cur, did, _, _, _, rfl, by omega, hI.mono, ⟨rfl, rfl, rfl⟩, by simp [hlO, cX, cA, upd, rA, rDd, rowD, f0, f1, f2] <;> omega, keep_of rfl (by simp)⟩)
                )
          · cases hv : M.get 0 with
            | none =>
              first
              | (exfalso; simp [hv] at e0; done)
              | (
                have hb0 := eO_read (e := rE9) (s := s) (M := M) (M' := M) (k := 0) (sp := (kt, kad, kad + 1)) (l := []) (r := 5) hgo.ok hvw (by unfold readR; rw [show spnR (kt, kad, kad + 1) = true by (simp [spnR]; omega), hv]; rfl)
                refine Tri.block ?_
                refine Tri.tree (.a (.b 55 false) (.a (.b 63 true) (.o [2, 0, 1, 3] [] hb0 (.a (.b 81 false) .nil)))) rfl ?_
                repeat ((with_reducible apply And.intro); focus (first | exact True.intro | exact ⟨.inr rfl, rfl, by simp, by simp, by omega, by omega⟩ | (simp [leVs, leP, leE, leEs, leL, leC, rI, rwC, rwS, hX]; done) | omega | exact rfl))
                have f0 := e0
                have f1 := e1
                have f2 := e2
                refine Tri.let [0, 1, 2, 3, 4, 5, 6, 7, 8] [] [0, 3, 4, 5, 6, 7] rfl trivial ?_
                exact Tri.go [] rfl ⟨by omega, trivial⟩ (again (ops.length - (i + 1)) (by omega) ⟨i + 1, s, M, cur, did, _, _, _, rfl, by omega, hI.mono, ⟨rfl, rfl, rfl⟩, by simp [hlO, cX, cA, upd, rA, rDd, rowD, f0, f1, f2] <;> omega, keep_of rfl (by simp)⟩)
                )
            | some v =>
              first
              | (exfalso; simp [hv] at e0; done)
              | (
                have hri := hI.read hv had (t := kt)
                have hb0 := eO_read (e := rE9) (s := s) (M := M) (k := 0) hgo.ok hvw (hI.rdR hi80 hv ht had)
                generalize wordAt s.L v.W v.q kt kad = wd at *
                generalize hV : (⟨v.q, addsS v.R (restL v.W (kt, kad, kad + 1)), v.W⟩ : Vw) = V at *
                refine Tri.block ?_
                refine Tri.tree (.a (.b 55 false) (.a (.b 63 true) (.o [2, 0, 1, 3] [] hb0 (.a (.b 81 true) (.a (.b 84 false) (.a (.at [.int .u16 wd]) .nil)))))) rfl ?_
                repeat ((with_reducible apply And.intro); focus (first | exact True.intro | exact ⟨.inr rfl, rfl, by simp, by simp, by omega, by omega⟩ | (simp [leVs, leP, leE, leEs, leL, leC, rI, rwC, rwS, hX]; done) | omega | exact rfl))
                have f0 : ((M.set 0 V).get 0).isSome = true := by rw [Mo.get_set_eq]; rfl
                have f1 := (congrArg Option.isSome (Mo.get_set_ne (M := M) (k := 0) (j := 1) (v := V) (by decide))).trans e1
                have f2 := (congrArg Option.isSome (Mo.get_set_ne (M := M) (k := 0) (j := 2) (v := V) (by decide))).trans e2
                refine Tri.let [0, 1, 2, 3, 4, 10, 6, 7, 8] [] [0, 3, 4, 5, 6, 7] rfl trivial ?_
                exact Tri.go [] rfl ⟨by omega, trivial⟩ (again (ops.length - (i + 1)) (by omega) ⟨i + 1, s, _, _, did, _, _, _, rfl, by omega, hri, ⟨rfl, rfl, rfl⟩, by simp [hlO, cX, cA, upd, rA, rDd, rowD, f0, f1, f2] <;> omega, keep_of rfl (by simp)⟩)
                )
          · cases hv : M.get 0 with
            | none =>
              first
              | (exfalso; simp [hv] at e0; done)
              | (
                have hb0 := eO_read (e := rE9) (s := s) (M := M) (M' := M) (k := 0) (sp := (kt, kad, kad + 1)) (l := []) (r := 5) hgo.ok hvw (by unfold readR; rw [show spnR (kt, kad, kad + 1) = true by (simp [spnR]; omega), hv]; rfl)
                refine Tri.block ?_
                refine Tri.tree (.a (.b 55 false) (.a (.b 63 false) (.a (.b 63 true) (.o [2, 0, 1, 3] [] hb0 (.a (.b 81 false) .nil))))) rfl ?_
                repeat ((with_reducible apply And.intro); focus (first | exact True.intro | exact ⟨.inr rfl, rfl, by simp, by simp, by omega, by omega⟩ | (simp [leVs, leP, leE, leEs, leL, leC, rI, rwC, rwS, hX]; done) | omega | exact rfl))
                have f0 := e0
                have f1 := e1
                have f2 := e2
                refine Tri.let [0, 1, 2, 3, 4, 5, 6, 7, 8] [] [0, 3, 4, 5, 6, 7] rfl trivial ?_
                exact Tri.go [] rfl ⟨by omega, trivial⟩ (again (ops.length - (i + 1)) (by omega) ⟨i + 1, s, M, cur, did, _, _, _, rfl, by omega, hI.mono, ⟨rfl, rfl, rfl⟩, by simp [hlO, cX, cA, upd, rA, rDd, rowD, f0, f1, f2] <;> omega, keep_of rfl (by simp)⟩)
                )
            | some v =>
              first
              | (exfalso; simp [hv] at e0; done)
              | (
                have hri := hI.read hv had (t := kt)
                have hb0 := eO_read (e := rE9) (s := s) (M := M) (k := 0) hgo.ok hvw (hI.rdR hi80 hv ht had)
                generalize wordAt s.L v.W v.q kt kad = wd at *
                generalize hV : (⟨v.q, addsS v.R (restL v.W (kt, kad, kad + 1)), v.W⟩ : Vw) = V at *
                refine Tri.block ?_
                refine Tri.tree (.a (.b 55 false) (.a (.b 63 false) (.a (.b 63 true) (.o [2, 0, 1, 3] [] hb0 (.a (.b 81 true) (.a (.b 84 false) (.a (.at [.int .u16 wd]) .nil))))))) rfl ?_
                repeat ((with_reducible apply And.intro); focus (first | exact True.intro | exact ⟨.inr rfl, rfl, by simp, by simp, by omega, by omega⟩ | (simp [leVs, leP, leE, leEs, leL, leC, rI, rwC, rwS, hX]; done) | omega | exact rfl))
                have f0 : ((M.set 0 V).get 0).isSome = true := by rw [Mo.get_set_eq]; rfl
                have f1 := (congrArg Option.isSome (Mo.get_set_ne (M := M) (k := 0) (j := 1) (v := V) (by decide))).trans e1
                have f2 := (congrArg Option.isSome (Mo.get_set_ne (M := M) (k := 0) (j := 2) (v := V) (by decide))).trans e2
                refine Tri.let [0, 1, 2, 3, 4, 10, 6, 7, 8] [] [0, 3, 4, 5, 6, 7] rfl trivial ?_
                exact Tri.go [] rfl ⟨by omega, trivial⟩ (again (ops.length - (i + 1)) (by omega) ⟨i + 1, s, _, _, did, _, _, _, rfl, by omega, hri, ⟨rfl, rfl, rfl⟩, by simp [hlO, cX, cA, upd, rA, rDd, rowD, f0, f1, f2] <;> omega, keep_of rfl (by simp)⟩)
                )
          · cases hv : M.get 0 with
            | none =>
              first
              | (exfalso; simp [hv] at e0; done)
              | (
                have hb0 := eO_write (e := rE9) (s := s) (M := M) (M' := M) (k := 0) (l := [x]) (r := 5) (by simp) hvw (by unfold writeR; rw [show mayL [x] = true by simp [mayL, rightL, hcG.r], hv]; rfl)
                refine Tri.block ?_
                refine Tri.tree (.a (.b 55 false) (.a (.b 63 false) (.a (.b 63 false) (.a (.b 98 true) (.f [] hcell (.o [2, 0, 1, 3] [] hb0 (.a (.b 107 false) .nil))))))) rfl ?_
                repeat ((with_reducible apply And.intro); focus (first | exact True.intro | exact ⟨.inr rfl, rfl, by simp, by simp, by omega, by omega⟩ | (simp [leVs, leP, leE, leEs, leL, leC, rI, rwC, rwS, hX]; done) | omega | exact rfl))
                have f0 := e0
                have f1 := e1
                have f2 := e2
                refine Tri.let [0, 1, 2, 3, 4, 5, 6, 7, 8] [] [0, 3, 4, 5, 6, 7] rfl trivial ?_
                exact Tri.go [] rfl ⟨by omega, trivial⟩ (again (ops.length - (i + 1)) (by omega) ⟨i + 1, s, M, cur, did, _, _, _, rfl, by omega, hI.mono, ⟨rfl, rfl, rfl⟩, by simp [hlO, cX, cA, upd, rA, rDd, rowD, f0, f1, f2] <;> omega, keep_of rfl (by simp)⟩)
                )
            | some v =>
              first
              | (exfalso; simp [hv] at e0; done)
              | (
                have hri := hI.write hv hcG
                have hb0 := eO_write (e := rE9) (s := s) (M := M) (k := 0) (l := [x]) (by simp) hvw (hI.wrR hi80 hv hcG)
                generalize hV : (⟨v.q, v.R, putL v.W x⟩ : Vw) = V at *
                refine Tri.block ?_
                refine Tri.tree (.a (.b 55 false) (.a (.b 63 false) (.a (.b 63 false) (.a (.b 98 true) (.f [] hcell (.o [2, 0, 1, 3] [] hb0 (.a (.b 107 true) .nil))))))) rfl ?_
                repeat ((with_reducible apply And.intro); focus (first | exact True.intro | exact ⟨.inr rfl, rfl, by simp, by simp, by omega, by omega⟩ | (simp [leVs, leP, leE, leEs, leL, leC, rI, rwC, rwS, hX]; done) | omega | exact rfl))
                have f0 : ((M.set 0 V).get 0).isSome = true := by rw [Mo.get_set_eq]; rfl
                have f1 := (congrArg Option.isSome (Mo.get_set_ne (M := M) (k := 0) (j := 1) (v := V) (by decide))).trans e1
                have f2 := (congrArg Option.isSome (Mo.get_set_ne (M := M) (k := 0) (j := 2) (v := V) (by decide))).trans e2
                refine Tri.let [0, 1, 2, 3, 4, 11, 6, 7, 8] [] [0, 3, 4, 5, 6, 7] rfl trivial ?_
                exact Tri.go [] rfl ⟨by omega, trivial⟩ (again (ops.length - (i + 1)) (by omega) ⟨i + 1, s, _, _, did, _, _, _, rfl, by omega, hri, ⟨rfl, rfl, rfl⟩, by simp [hlO, cX, cA, upd, rA, rDd, rowD, f0, f1, f2] <;> omega, keep_of rfl (by simp)⟩)
                )
          · cases hv : M.get 0 with
            | none =>
              first
              | (exfalso; simp [hv] at e0; done)
              | (
                have hb0 := eO_commit (e := rE9) (s := s) (s' := s) (M := M) (M' := M) (k := 0) (a := 0) (r := 5) hgo hvw (by unfold comR; rw [hv])
                have hl0 := sLast_ok (s := s)
                refine Tri.block ?_
                refine Tri.tree (.a (.b 55 false) (.a (.b 63 false) (.a (.b 63 false) (.a (.b 98 false) (.a (.b 117 true) (.o [0, 1] [] hl0 (.o [2, 0, 1, 3] [] hb0 (.a (.b 128 false) .nil)))))))) rfl ?_
                repeat ((with_reducible apply And.intro); focus (first | exact True.intro | exact ⟨.inr rfl, rfl, by simp, by simp, by omega, by omega⟩ | (simp [leVs, leP, leE, leEs, leL, leC, rI, rwC, rwS, hX]; done) | omega | exact rfl))
                have f0 := e0
                have f1 := e1
                have f2 := e2
                refine Tri.let [0, 1, 2, 3, 4, 5, 6, 7, 8] [] [0, 3, 4, 5, 6, 7] rfl trivial ?_
                exact Tri.go [] rfl ⟨by omega, trivial⟩ (again (ops.length - (i + 1)) (by omega) ⟨i + 1, s, M, cur, did, _, _, _, rfl, by omega, hI.mono, ⟨rfl, rfl, rfl⟩, by simp [hlO, cX, cA, upd, rA, rDd, rowD, f0, f1, f2] <;> omega, keep_of rfl (by simp)⟩)
                )
            | some v =>
              first
              | (exfalso; simp [hv] at e0; done)
              | (
                have hl0 := sLast_ok (s := s)
                have hcr := hI.coR hi80 hv
                refine Tri.frz 5 4 0 ⟨_, _, _, _, _, rfl, rfl, rfl, by simp, rfl⟩ ?_
                refine Tri.block ?_
                by_cases hW : v.W = []
                · rw [if_pos hW] at hcr
                  have hb0 := eO_commit (e := rE9) hgo hvw hcr
                  refine Tri.tree (.a (.b 55 false) (.a (.b 63 false) (.a (.b 63 false) (.a (.b 98 false) (.a (.b 117 true) (.o [0, 1] [] hl0 (.o [2, 0, 1, 3] [] hb0 (.a (.b 128 true) (.o [0, 1] [] hl0 .nil))))))))) rfl ?_
                  repeat ((with_reducible apply And.intro); focus (first | exact True.intro | exact ⟨.inr rfl, rfl, by simp, by simp, by omega, by omega⟩ | (simp [leVs, leP, leE, leEs, leL, leC, rI, rwC, rwS, hX]; done) | omega | exact rfl))
                  have f0 : ((M.del 0).get 0).isSome = false := by rw [Mo.get_del hnd]; rfl
                  have f1 := (congrArg Option.isSome (Mo.get_del_ne (M := M) (k := 0) (j := 1) (by decide))).trans e1
                  have f2 := (congrArg Option.isSome (Mo.get_del_ne (M := M) (k := 0) (j := 2) (by decide))).trans e2
                  refine Tri.let [0, 1, 2, 3, 4, 5, 6, 7, 10] [] [0, 3, 4, 5, 6, 7] rfl trivial ?_
                  exact Tri.go [] rfl ⟨by omega, trivial⟩ (again (ops.length - (i + 1)) (by omega) ⟨i + 1, s, _, cur, _, _, _, _, rfl, by omega, hI.reader hv hW, ⟨rfl, rfl, rfl⟩, by simp [hlO, cX, cA, upd, rA, rDd, rowD, f0, f1, f2] <;> omega, keep_of rfl (by simp)⟩)
                · rw [if_neg hW] at hcr
                  cases hcl : clashS s.L v.q v.R with
                  | some kk =>
                    rw [hcl] at hcr
                    have hb0 := eO_commit (e := rE9) hgo hvw hcr
                    refine Tri.tree (.a (.b 55 false) (.a (.b 63 false) (.a (.b 63 false) (.a (.b 98 false) (.a (.b 117 true) (.o [0, 1] [] hl0 (.o [2, 0, 1, 3] [] hb0 (.a (.b 128 false) .nil)))))))) rfl ?_
                    repeat ((with_reducible apply And.intro); focus (first | exact True.intro | exact ⟨.inr rfl, rfl, by simp, by simp, by omega, by omega⟩ | (simp [leVs, leP, leE, leEs, leL, leC, rI, rwC, rwS, hX]; done) | omega | exact rfl))
                    have f0 : ((M.del 0).get 0).isSome = false := by rw [Mo.get_del hnd]; rfl
                    have f1 := (congrArg Option.isSome (Mo.get_del_ne (M := M) (k := 0) (j := 1) (by decide))).trans e1
                    have f2 := (congrArg Option.isSome (Mo.get_del_ne (M := M) (k := 0) (j := 2) (by decide))).trans e2
                    refine Tri.let [0, 1, 2, 3, 4, 5, 6, 7, 8] [] [0, 3, 4, 5, 6, 7] rfl trivial ?_
                    exact Tri.go [] rfl ⟨by omega, trivial⟩ (again (ops.length - (i + 1)) (by omega) ⟨i + 1, s, _, cur, did, _, _, _, rfl, by omega, hI.del (c := 0), ⟨rfl, rfl, rfl⟩, by simp [hlO, cX, cA, upd, rA, rDd, rowD, f0, f1, f2] <;> omega, keep_of rfl (by simp)⟩)
                  | none =>
                    rw [hcl] at hcr
                    have hb0 := eO_commit (e := rE9) hgo hvw hcr
                    have hri := hI.writer hi80 hv hcl
                    have hl1 := sLast_ok (s := ⟨s.last + 1, s.n + v.W.length, s.most, addsK s.L (s.last + 1) v.W⟩)
                    refine Tri.tree (.a (.b 55 false) (.a (.b 63 false) (.a (.b 63 false) (.a (.b 98 false) (.a (.b 117 true) (.o [0, 1] [] hl0 (.o [2, 0, 1, 3] [] hb0 (.a (.b 128 true) (.o [0, 1] [] hl1 .nil))))))))) rfl ?_
                    repeat ((with_reducible apply And.intro); focus (first | exact True.intro | exact ⟨.inr rfl, rfl, by simp, by simp, by omega, by omega⟩ | (simp [leVs, leP, leE, leEs, leL, leC, rI, rwC, rwS, hX]; done) | omega | exact rfl))
                    have f0 : ((M.del 0).get 0).isSome = false := by rw [Mo.get_del hnd]; rfl
                    have f1 := (congrArg Option.isSome (Mo.get_del_ne (M := M) (k := 0) (j := 1) (by decide))).trans e1
                    have f2 := (congrArg Option.isSome (Mo.get_del_ne (M := M) (k := 0) (j := 2) (by decide))).trans e2
                    refine Tri.let [0, 1, 2, 3, 4, 5, 6, 7, 10] [] [0, 3, 4, 5, 6, 7] rfl trivial ?_
                    exact Tri.go [] rfl ⟨by omega, trivial⟩ (again (ops.length - (i + 1)) (by omega) ⟨i + 1, _, _, cur, _, _, _, _, rfl, by omega, hri, ⟨rfl, rfl, rfl⟩, by simp [hlO, cX, cA, upd, rA, rDd, rowD, f0, f1, f2] <;> omega, keep_of rfl (by simp)⟩)
                )
        · rcases hr with rfl | rfl | rfl | rfl | rfl
          · cases hv : M.get 1 with
            | none =>
              first
              | (exfalso; simp [hv] at e1; done)
              | (
                by_cases h9 : (9 : Int) ≤ M.es.length
                · have hb0 := eO_begin (e := rE9) (s := s) (M := M) (M' := M) (k := 1) (r := 4) (by unfold begR; rw [hv]; simp [h9])
                  refine Tri.block ?_
                  refine Tri.tree (.a (.b 55 true) (.o [2, 0, 1, 3] [] hb0 (.a (.b 60 false) .nil))) rfl ?_
                  repeat ((with_reducible apply And.intro); focus (first | exact True.intro | exact ⟨.inr rfl, rfl, by simp, by simp, by omega, by omega⟩ | (simp [leVs, leP, leE, leEs, leL, leC, rI, rwC, rwS, hX]; done) | omega | exact rfl))
                  have f0 := e0
                  have f1 := e1
                  have f2 := e2
                  refine Tri.let [0, 1, 2, 3, 4, 5, 6, 7, 8] [] [0, 3, 4, 5, 6, 7] rfl trivial ?_
                  exact Tri.go [] rfl ⟨by omega, trivial⟩ (again (ops.length - (i + 1)) (by omega) ⟨i + 1, s, M, cur, did, _, _, _, rfl, by omega, hI.mono, ⟨rfl, rfl, rfl⟩, by simp [hlO, cX, cA, upd, rA, rDd, rowD, f0, f1, f2] <;> omega, keep_of rfl (by simp)⟩)
                · have hb0 := eO_begin (e := rE9) (s := s) (M := M) (M' := M.set 1 ⟨s.last, [], []⟩) (k := 1) (r := 0) (by unfold begR; rw [hv]; simp [h9])
                  refine Tri.block ?_
                  refine Tri.tree (.a (.b 55 true) (.o [2, 0, 1, 3] [] hb0 (.a (.b 60 true) .nil))) rfl ?_
                  repeat ((with_reducible apply And.intro); focus (first | exact True.intro | exact ⟨.inr rfl, rfl, by simp, by simp, by omega, by omega⟩ | (simp [leVs, leP, leE, leEs, leL, leC, rI, rwC, rwS, hX]; done) | omega | exact rfl))
                  refine Tri.ownB 4 1 4 (by omega) rfl rfl ?_
                  have f0 := (congrArg Option.isSome (Mo.get_set_ne (M := M) (k := 1) (j := 0) (v := ⟨s.last, [], []⟩) (by decide))).trans e0
                  have f1 : ((M.set 1 ⟨s.last, [], []⟩).get 1).isSome = true := by rw [Mo.get_set_eq]; rfl
                  have f2 := (congrArg Option.isSome (Mo.get_set_ne (M := M) (k := 1) (j := 2) (v := ⟨s.last, [], []⟩) (by decide))).trans e2
                  refine Tri.let [0, 1, 2, 3, 4, 5, 10, 7, 8] [] [0, 3, 4, 5, 6, 7] rfl trivial ?_
                  exact Tri.go [] rfl ⟨by omega, trivial⟩ (again (ops.length - (i + 1)) (by omega) ⟨i + 1, s, _, _, did, _, _, _, rfl, by omega, hI.begin (c := 1), ⟨rfl, rfl, rfl⟩, by simp [hlO, cX, cA, upd, rA, rDd, rowD, f0, f1, f2] <;> omega, keep_of rfl (by simp)⟩)
                )
            | some v =>
              first
              | (exfalso; simp [hv] at e1; done)
              | (
                have hb0 := eO_begin (e := rE9) (s := s) (M := M) (M' := M) (k := 1) (r := 6) (by unfold begR; rw [hv]; rfl)
                refine Tri.block ?_
                refine Tri.tree (.a (.b 55 true) (.o [2, 0, 1, 3] [] hb0 (.a (.b 60 false) .nil))) rfl ?_
                repeat ((with_reducible apply And.intro); focus (first | exact True.intro | exact ⟨.inr rfl, rfl, by simp, by simp, by omega, by omega⟩ | (simp [leVs, leP, leE, leEs, leL, leC, rI, rwC, rwS, hX]; done) | omega | exact rfl))
                have f0 := e0
                have f1 := e1
                have f2 := e2
                refine Tri.let [0, 1, 2, 3, 4, 5, 6, 7, 8] [] [0, 3, 4, 5, 6, 7] rfl trivial ?_
                exact Tri.go [] rfl ⟨by omega, trivial⟩ (again (ops.length - (i + 1)) (by omega) ⟨i + 1, s, M, cur, did, _, _, _, rfl, by omega, hI.mono, ⟨rfl, rfl, rfl⟩, by simp [hlO, cX, cA, upd, rA, rDd, rowD, f0, f1, f2] <;> omega, keep_of rfl (by simp)⟩)
                )
          · cases hv : M.get 1 with
            | none =>
              first
              | (exfalso; simp [hv] at e1; done)
              | (
                have hb0 := eO_read (e := rE9) (s := s) (M := M) (M' := M) (k := 1) (sp := (kt, kad, kad + 1)) (l := []) (r := 5) hgo.ok hvw (by unfold readR; rw [show spnR (kt, kad, kad + 1) = true by (simp [spnR]; omega), hv]; rfl)
                refine Tri.block ?_
                refine Tri.tree (.a (.b 55 false) (.a (.b 63 true) (.o [2, 0, 1, 3] [] hb0 (.a (.b 81 false) .nil)))) rfl ?_
                repeat ((with_reducible apply And.intro); focus (first | exact True.intro | exact ⟨.inr rfl, rfl, by simp, by simp, by omega, by omega⟩ | (simp [leVs, leP, leE, leEs, leL, leC, rI, rwC, rwS, hX]; done) | omega | exact rfl))
                have f0 := e0
                have f1 := e1
                have f2 := e2
                refine Tri.let [0, 1, 2, 3, 4, 5, 6, 7, 8] [] [0, 3, 4, 5, 6, 7] rfl trivial ?_
                exact Tri.go [] rfl ⟨by omega, trivial⟩ (again (ops.length - (i + 1)) (by omega) ⟨i + 1, s, M, cur, did, _, _, _, rfl, by omega, hI.mono, ⟨rfl, rfl, rfl⟩, by simp [hlO, cX, cA, upd, rA, rDd, rowD, f0, f1, f2] <;> omega, keep_of rfl (by simp)⟩)
                )
            | some v =>
              first
              | (exfalso; simp [hv] at e1; done)
              | (
                have hri := hI.read hv had (t := kt)
                have hb0 := eO_read (e := rE9) (s := s) (M := M) (k := 1) hgo.ok hvw (hI.rdR hi80 hv ht had)
                generalize wordAt s.L v.W v.q kt kad = wd at *
                generalize hV : (⟨v.q, addsS v.R (restL v.W (kt, kad, kad + 1)), v.W⟩ : Vw) = V at *
                refine Tri.block ?_
                refine Tri.tree (.a (.b 55 false) (.a (.b 63 true) (.o [2, 0, 1, 3] [] hb0 (.a (.b 81 true) (.a (.b 84 false) (.a (.at [.int .u16 wd]) .nil)))))) rfl ?_
                repeat ((with_reducible apply And.intro); focus (first | exact True.intro | exact ⟨.inr rfl, rfl, by simp, by simp, by omega, by omega⟩ | (simp [leVs, leP, leE, leEs, leL, leC, rI, rwC, rwS, hX]; done) | omega | exact rfl))
                have f0 := (congrArg Option.isSome (Mo.get_set_ne (M := M) (k := 1) (j := 0) (v := V) (by decide))).trans e0
                have f1 : ((M.set 1 V).get 1).isSome = true := by rw [Mo.get_set_eq]; rfl
                have f2 := (congrArg Option.isSome (Mo.get_set_ne (M := M) (k := 1) (j := 2) (v := V) (by decide))).trans e2
                refine Tri.let [0, 1, 2, 3, 4, 5, 10, 7, 8] [] [0, 3, 4, 5, 6, 7] rfl trivial ?_
                exact Tri.go [] rfl ⟨by omega, trivial⟩ (again (ops.length - (i + 1)) (by omega) ⟨i + 1, s, _, _, did, _, _, _, rfl, by omega, hri, ⟨rfl, rfl, rfl⟩, by simp [hlO, cX, cA, upd, rA, rDd, rowD, f0, f1, f2] <;> omega, keep_of rfl (by simp)⟩)
                )
          · cases hv : M.get 1 with
            | none =>
              first
              | (exfalso; simp [hv] at e1; done)
              | (
                have hb0 := eO_read (e := rE9) (s := s) (M := M) (M' := M) (k := 1) (sp := (kt, kad, kad + 1)) (l := []) (r := 5) hgo.ok hvw (by unfold readR; rw [show spnR (kt, kad, kad + 1) = true by (simp [spnR]; omega), hv]; rfl)
                refine Tri.block ?_
                refine Tri.tree (.a (.b 55 false) (.a (.b 63 false) (.a (.b 63 true) (.o [2, 0, 1, 3] [] hb0 (.a (.b 81 false) .nil))))) rfl ?_
                repeat ((with_reducible apply And.intro); focus (first | exact True.intro | exact ⟨.inr rfl, rfl, by simp, by simp, by omega, by omega⟩ | (simp [leVs, leP, leE, leEs, leL, leC, rI, rwC, rwS, hX]; done) | omega | exact rfl))
                have f0 := e0
                have f1 := e1
                have f2 := e2
                refine Tri.let [0, 1, 2, 3, 4, 5, 6, 7, 8] [] [0, 3, 4, 5, 6, 7] rfl trivial ?_
                exact Tri.go [] rfl ⟨by omega, trivial⟩ (again (ops.length - (i + 1)) (by omega) ⟨i + 1, s, M, cur, did, _, _, _, rfl, by omega, hI.mono, ⟨rfl, rfl, rfl⟩, by simp [hlO, cX, cA, upd, rA, rDd, rowD, f0, f1, f2] <;> omega, keep_of rfl (by simp)⟩)
                )
            | some v =>
              first
              | (exfalso; simp [hv] at e1; done)
              | (
                have hri := hI.read hv had (t := kt)
                have hb0 := eO_read (e := rE9) (s := s) (M := M) (k := 1) hgo.ok hvw (hI.rdR hi80 hv ht had)
                generalize wordAt s.L v.W v.q kt kad = wd at *
                generalize hV : (⟨v.q, addsS v.R (restL v.W (kt, kad, kad + 1)), v.W⟩ : Vw) = V at *
                refine Tri.block ?_
                refine Tri.tree (.a (.b 55 false) (.a (.b 63 false) (.a (.b 63 true) (.o [2, 0, 1, 3] [] hb0 (.a (.b 81 true) (.a (.b 84 false) (.a (.at [.int .u16 wd]) .nil))))))) rfl ?_
                repeat ((with_reducible apply And.intro); focus (first | exact True.intro | exact ⟨.inr rfl, rfl, by simp, by simp, by omega, by omega⟩ | (simp [leVs, leP, leE, leEs, leL, leC, rI, rwC, rwS, hX]; done) | omega | exact rfl))
                have f0 := (congrArg Option.isSome (Mo.get_set_ne (M := M) (k := 1) (j := 0) (v := V) (by decide))).trans e0
                have f1 : ((M.set 1 V).get 1).isSome = true := by rw [Mo.get_set_eq]; rfl
                have f2 := (congrArg Option.isSome (Mo.get_set_ne (M := M) (k := 1) (j := 2) (v := V) (by decide))).trans e2
                refine Tri.let [0, 1, 2, 3, 4, 5, 10, 7, 8] [] [0, 3, 4, 5, 6, 7] rfl trivial ?_
                exact Tri.go [] rfl ⟨by omega, trivial⟩ (again (ops.length - (i + 1)) (by omega) ⟨i + 1, s, _, _, did, _, _, _, rfl, by omega, hri, ⟨rfl, rfl, rfl⟩, by simp [hlO, cX, cA, upd, rA, rDd, rowD, f0, f1, f2] <;> omega, keep_of rfl (by simp)⟩)
                )
          · cases hv : M.get 1 with
            | none =>
              first
              | (exfalso; simp [hv] at e1; done)
              | (
                have hb0 := eO_write (e := rE9) (s := s) (M := M) (M' := M) (k := 1) (l := [x]) (r := 5) (by simp) hvw (by unfold writeR; rw [show mayL [x] = true by simp [mayL, rightL, hcG.r], hv]; rfl)
                refine Tri.block ?_
                refine Tri.tree (.a (.b 55 false) (.a (.b 63 false) (.a (.b 63 false) (.a (.b 98 true) (.f [] hcell (.o [2, 0, 1, 3] [] hb0 (.a (.b 107 false) .nil))))))) rfl ?_
                repeat ((with_reducible apply And.intro); focus (first | exact True.intro | exact ⟨.inr rfl, rfl, by simp, by simp, by omega, by omega⟩ | (simp [leVs, leP, leE, leEs, leL, leC, rI, rwC, rwS, hX]; done) | omega | exact rfl))
                have f0 := e0
                have f1 := e1
                have f2 := e2
                refine Tri.let [0, 1, 2, 3, 4, 5, 6, 7, 8] [] [0, 3, 4, 5, 6, 7] rfl trivial ?_
                exact Tri.go [] rfl ⟨by omega, trivial⟩ (again (ops.length - (i + 1)) (by omega) ⟨i + 1, s, M, cur, did, _, _, _, rfl, by omega, hI.mono, ⟨rfl, rfl, rfl⟩, by simp [hlO, cX, cA, upd, rA, rDd, rowD, f0, f1, f2] <;> omega, keep_of rfl (by simp)⟩)
                )
            | some v =>
              first
              | (exfalso; simp [hv] at e1; done)
              | (
                have hri := hI.write hv hcG
                have hb0 := eO_write (e := rE9) (s := s) (M := M) (k := 1) (l := [x]) (by simp) hvw (hI.wrR hi80 hv hcG)
                generalize hV : (⟨v.q, v.R, putL v.W x⟩ : Vw) = V at *
                refine Tri.block ?_
                refine Tri.tree (.a (.b 55 false) (.a (.b 63 false) (.a (.b 63 false) (.a (.b 98 true) (.f [] hcell (.o [2, 0, 1, 3] [] hb0 (.a (.b 107 true) .nil))))))) rfl ?_
                repeat ((with_reducible apply And.intro); focus (first | exact True.intro | exact ⟨.inr rfl, rfl, by simp, by simp, by omega, by omega⟩ | (simp [leVs, leP, leE, leEs, leL, leC, rI, rwC, rwS, hX]; done) | omega | exact rfl))
                have f0 := (congrArg Option.isSome (Mo.get_set_ne (M := M) (k := 1) (j := 0) (v := V) (by decide))).trans e0
                have f1 : ((M.set 1 V).get 1).isSome = true := by rw [Mo.get_set_eq]; rfl
                have f2 := (congrArg Option.isSome (Mo.get_set_ne (M := M) (k := 1) (j := 2) (v := V) (by decide))).trans e2
                refine Tri.let [0, 1, 2, 3, 4, 5, 11, 7, 8] [] [0, 3, 4, 5, 6, 7] rfl trivial ?_
                exact Tri.go [] rfl ⟨by omega, trivial⟩ (again (ops.length - (i + 1)) (by omega) ⟨i + 1, s, _, _, did, _, _, _, rfl, by omega, hri, ⟨rfl, rfl, rfl⟩, by simp [hlO, cX, cA, upd, rA, rDd, rowD, f0, f1, f2] <;> omega, keep_of rfl (by simp)⟩)
                )
          · cases hv : M.get 1 with
            | none =>
              first
              | (exfalso; simp [hv] at e1; done)
              | (
                have hb0 := eO_commit (e := rE9) (s := s) (s' := s) (M := M) (M' := M) (k := 1) (a := 0) (r := 5) hgo hvw (by unfold comR; rw [hv])
                have hl0 := sLast_ok (s := s)
                refine Tri.block ?_
                refine Tri.tree (.a (.b 55 false) (.a (.b 63 false) (.a (.b 63 false) (.a (.b 98 false) (.a (.b 117 true) (.o [0, 1] [] hl0 (.o [2, 0, 1, 3] [] hb0 (.a (.b 128 false) .nil)))))))) rfl ?_
                repeat ((with_reducible apply And.intro); focus (first | exact True.intro | exact ⟨.inr rfl, rfl, by simp, by simp, by omega, by omega⟩ | (simp [leVs, leP, leE, leEs, leL, leC, rI, rwC, rwS, hX]; done) | omega | exact rfl))
                have f0 := e0
                have f1 := e1
                have f2 := e2
                refine Tri.let [0, 1, 2, 3, 4, 5, 6, 7, 8] [] [0, 3, 4, 5, 6, 7] rfl trivial ?_
                exact Tri.go [] rfl ⟨by omega, trivial⟩ (again (ops.length - (i + 1)) (by omega) ⟨i + 1, s, M, cur, did, _, _, _, rfl, by omega, hI.mono, ⟨rfl, rfl, rfl⟩, by simp [hlO, cX, cA, upd, rA, rDd, rowD, f0, f1, f2] <;> omega, keep_of rfl (by simp)⟩)
                )
            | some v =>
              first
              | (exfalso; simp [hv] at e1; done)
              | (
                have hl0 := sLast_ok (s := s)
                have hcr := hI.coR hi80 hv
                refine Tri.frz 6 4 1 ⟨_, _, _, _, _, rfl, rfl, rfl, by simp, rfl⟩ ?_
                refine Tri.block ?_
                by_cases hW : v.W = []
                · rw [if_pos hW] at hcr
                  have hb0 := eO_commit (e := rE9) hgo hvw hcr
                  refine Tri.tree (.a (.b 55 false) (.a (.b 63 false) (.a (.b 63 false) (.a (.b 98 false) (.a (.b 117 true) (.o [0, 1] [] hl0 (.o [2, 0, 1, 3] [] hb0 (.a (.b 128 true) (.o [0, 1] [] hl0 .nil))))))))) rfl ?_
                  repeat ((with_reducible apply And.intro); focus (first | exact True.intro | exact ⟨.inr rfl, rfl, by simp, by simp, by omega, by omega⟩ | (simp [leVs, leP, leE, leEs, leL, leC, rI, rwC, rwS, hX]; done) | omega | exact rfl))
                  have f0 := (congrArg Option.isSome (Mo.get_del_ne (M := M) (k := 1) (j := 0) (by decide))).trans e0
                  have f1 : ((M.del 1).get 1).isSome = false := by rw [Mo.get_del hnd]; rfl
                  have f2 := (congrArg Option.isSome (Mo.get_del_ne (M := M) (k := 1) (j := 2) (by decide))).trans e2
                  refine Tri.let [0, 1, 2, 3, 4, 5, 6, 7, 10] [] [0, 3, 4, 5, 6, 7] rfl trivial ?_
                  exact Tri.go [] rfl ⟨by omega, trivial⟩ (again (ops.length - (i + 1)) (by omega) ⟨i + 1, s, _, cur, _, _, _, _, rfl, by omega, hI.reader hv hW, ⟨rfl, rfl, rfl⟩, by simp [hlO, cX, cA, upd, rA, rDd, rowD, f0, f1, f2] <;> omega, keep_of rfl (by simp)⟩)
                · rw [if_neg hW] at hcr
                  cases hcl : clashS s.L v.q v.R with
                  | some kk =>
                    rw [hcl] at hcr
                    have hb0 := eO_commit (e := rE9) hgo hvw hcr
                    refine Tri.tree (.a (.b 55 false) (.a (.b 63 false) (.a (.b 63 false) (.a (.b 98 false) (.a (.b 117 true) (.o [0, 1] [] hl0 (.o [2, 0, 1, 3] [] hb0 (.a (.b 128 false) .nil)))))))) rfl ?_
                    repeat ((with_reducible apply And.intro); focus (first | exact True.intro | exact ⟨.inr rfl, rfl, by simp, by simp, by omega, by omega⟩ | (simp [leVs, leP, leE, leEs, leL, leC, rI, rwC, rwS, hX]; done) | omega | exact rfl))
                    have f0 := (congrArg Option.isSome (Mo.get_del_ne (M := M) (k := 1) (j := 0) (by decide))).trans e0
                    have f1 : ((M.del 1).get 1).isSome = false := by rw [Mo.get_del hnd]; rfl
                    have f2 := (congrArg Option.isSome (Mo.get_del_ne (M := M) (k := 1) (j := 2) (by decide))).trans e2
                    refine Tri.let [0, 1, 2, 3, 4, 5, 6, 7, 8] [] [0, 3, 4, 5, 6, 7] rfl trivial ?_
                    exact Tri.go [] rfl ⟨by omega, trivial⟩ (again (ops.length - (i + 1)) (by omega) ⟨i + 1, s, _, cur, did, _, _, _, rfl, by omega, hI.del (c := 1), ⟨rfl, rfl, rfl⟩, by simp [hlO, cX, cA, upd, rA, rDd, rowD, f0, f1, f2] <;> omega, keep_of rfl (by simp)⟩)
                  | none =>
                    rw [hcl] at hcr
                    have hb0 := eO_commit (e := rE9) hgo hvw hcr
                    have hri := hI.writer hi80 hv hcl
                    have hl1 := sLast_ok (s := ⟨s.last + 1, s.n + v.W.length, s.most, addsK s.L (s.last + 1) v.W⟩)
                    refine Tri.tree (.a (.b 55 false) (.a (.b 63 false) (.a (.b 63 false) (.a (.b 98 false) (.a (.b 117 true) (.o [0, 1] [] hl0 (.o [2, 0, 1, 3] [] hb0 (.a (.b 128 true) (.o [0, 1] [] hl1 .nil))))))))) rfl ?_
                    repeat ((with_reducible apply And.intro); focus (first | exact True.intro | exact ⟨.inr rfl, rfl, by simp, by simp, by omega, by omega⟩ | (simp [leVs, leP, leE, leEs, leL, leC, rI, rwC, rwS, hX]; done) | omega | exact rfl))
                    have f0 := (congrArg Option.isSome (Mo.get_del_ne (M := M) (k := 1) (j := 0) (by decide))).trans e0
                    have f1 : ((M.del 1).get 1).isSome = false := by rw [Mo.get_del hnd]; rfl
                    have f2 := (congrArg Option.isSome (Mo.get_del_ne (M := M) (k := 1) (j := 2) (by decide))).trans e2
                    refine Tri.let [0, 1, 2, 3, 4, 5, 6, 7, 10] [] [0, 3, 4, 5, 6, 7] rfl trivial ?_
                    exact Tri.go [] rfl ⟨by omega, trivial⟩ (again (ops.length - (i + 1)) (by omega) ⟨i + 1, _, _, cur, _, _, _, _, rfl, by omega, hri, ⟨rfl, rfl, rfl⟩, by simp [hlO, cX, cA, upd, rA, rDd, rowD, f0, f1, f2] <;> omega, keep_of rfl (by simp)⟩)
                )
        · rcases hr with rfl | rfl | rfl | rfl | rfl
          · cases hv : M.get 2 with
            | none =>
              first
              | (exfalso; simp [hv] at e2; done)
              | (
                by_cases h9 : (9 : Int) ≤ M.es.length
                · have hb0 := eO_begin (e := rE9) (s := s) (M := M) (M' := M) (k := 2) (r := 4) (by unfold begR; rw [hv]; simp [h9])
                  refine Tri.block ?_
                  refine Tri.tree (.a (.b 55 true) (.o [2, 0, 1, 3] [] hb0 (.a (.b 60 false) .nil))) rfl ?_
                  repeat ((with_reducible apply And.intro); focus (first | exact True.intro | exact ⟨.inr rfl, rfl, by simp, by simp, by omega, by omega⟩ | (simp [leVs, leP, leE, leEs, leL, leC, rI, rwC, rwS, hX]; done) | omega | exact rfl))
                  have f0 := e0
                  have f1 := e1
                  have f2 := e2
                  refine Tri.let [0, 1, 2, 3, 4, 5, 6, 7, 8] [] [0, 3, 4, 5, 6, 7] rfl trivial ?_
                  exact Tri.go [] rfl ⟨by omega, trivial⟩ (again (ops.length - (i + 1)) (by omega) ⟨i + 1, s, M, cur, did, _, _, _, rfl, by omega, hI.mono, ⟨rfl, rfl, rfl⟩, by simp [hlO, cX, cA, upd, rA, rDd, rowD, f0, f1, f2] <;> omega, keep_of rfl (by simp)⟩)
                · have hb0 := eO_begin (e := rE9) (s := s) (M := M) (M' := M.set 2 ⟨s.last, [], []⟩) (k := 2) (r := 0) (by unfold begR; rw [hv]; simp [h9])
                  refine Tri.block ?_
                  refine Tri.tree (.a (.b 55 true) (.o [2, 0, 1, 3] [] hb0 (.a (.b 60 true) .nil))) rfl ?_
                  repeat ((with_reducible apply And.intro); focus (first | exact True.intro | exact ⟨.inr rfl, rfl, by simp, by simp, by omega, by omega⟩ | (simp [leVs, leP, leE, leEs, leL, leC, rI, rwC, rwS, hX]; done) | omega | exact rfl))
                  refine Tri.ownB 4 2 4 (by omega) rfl rfl ?_
                  have f0 := (congrArg Option.isSome (Mo.get_set_ne (M := M) (k := 2) (j := 0) (v := ⟨s.last, [], []⟩) (by decide))).trans e0
                  have f1 := (congrArg Option.isSome (Mo.get_set_ne (M := M) (k := 2) (j := 1) (v := ⟨s.last, [], []⟩) (by decide))).trans e1
                  have f2 : ((M.set 2 ⟨s.last, [], []⟩).get 2).isSome = true := by rw [Mo.get_set_eq]; rfl
                  refine Tri.let [0, 1, 2, 3, 4, 5, 6, 10, 8] [] [0, 3, 4, 5, 6, 7] rfl trivial ?_
                  exact Tri.go [] rfl ⟨by omega, trivial⟩ (again (ops.length - (i + 1)) (by omega) ⟨i + 1, s, _, _, did, _, _, _, rfl, by omega, hI.begin (c := 2), ⟨rfl, rfl, rfl⟩, by simp [hlO, cX, cA, upd, rA, rDd, rowD, f0, f1, f2] <;> omega, keep_of rfl (by simp)⟩)
                )
            | some v =>
              first
              | (exfalso; simp [hv] at e2; done)
              | (
                have hb0 := eO_begin (e := rE9) (s := s) (M := M) (M' := M) (k := 2) (r := 6) (by unfold begR; rw [hv]; rfl)
                refine Tri.block ?_
                refine Tri.tree (.a (.b 55 true) (.o [2, 0, 1, 3] [] hb0 (.a (.b 60 false) .nil))) rfl ?_
                repeat ((with_reducible apply And.intro); focus (first | exact True.intro | exact ⟨.inr rfl, rfl, by simp, by simp, by omega, by omega⟩ | (simp [leVs, leP, leE, leEs, leL, leC, rI, rwC, rwS, hX]; done) | omega | exact rfl))
                have f0 := e0
                have f1 := e1
                have f2 := e2
                refine Tri.let [0, 1, 2, 3, 4, 5, 6, 7, 8] [] [0, 3, 4, 5, 6, 7] rfl trivial ?_
                exact Tri.go [] rfl ⟨by omega, trivial⟩ (again (ops.length - (i + 1)) (by omega) ⟨i + 1, s, M, cur, did, _, _, _, rfl, by omega, hI.mono, ⟨rfl, rfl, rfl⟩, by simp [hlO, cX, cA, upd, rA, rDd, rowD, f0, f1, f2] <;> omega, keep_of rfl (by simp)⟩)
                )
          · cases hv : M.get 2 with
            | none =>
              first
              | (exfalso; simp [hv] at e2; done)
              | (
                have hb0 := eO_read (e := rE9) (s := s) (M := M) (M' := M) (k := 2) (sp := (kt, kad, kad + 1)) (l := []) (r := 5) hgo.ok hvw (by unfold readR; rw [show spnR (kt, kad, kad + 1) = true by (simp [spnR]; omega), hv]; rfl)
                refine Tri.block ?_
                refine Tri.tree (.a (.b 55 false) (.a (.b 63 true) (.o [2, 0, 1, 3] [] hb0 (.a (.b 81 false) .nil)))) rfl ?_
                repeat ((with_reducible apply And.intro); focus (first | exact True.intro | exact ⟨.inr rfl, rfl, by simp, by simp, by omega, by omega⟩ | (simp [leVs, leP, leE, leEs, leL, leC, rI, rwC, rwS, hX]; done) | omega | exact rfl))
                have f0 := e0
                have f1 := e1
                have f2 := e2
                refine Tri.let [0, 1, 2, 3, 4, 5, 6, 7, 8] [] [0, 3, 4, 5, 6, 7] rfl trivial ?_
                exact Tri.go [] rfl ⟨by omega, trivial⟩ (again (ops.length - (i + 1)) (by omega) ⟨i + 1, s, M, cur, did, _, _, _, rfl, by omega, hI.mono, ⟨rfl, rfl, rfl⟩, by simp [hlO, cX, cA, upd, rA, rDd, rowD, f0, f1, f2] <;> omega, keep_of rfl (by simp)⟩)
                )
            | some v =>
              first
              | (exfalso; simp [hv] at e2; done)
              | (
                have hri := hI.read hv had (t := kt)
                have hb0 := eO_read (e := rE9) (s := s) (M := M) (k := 2) hgo.ok hvw (hI.rdR hi80 hv ht had)
                generalize wordAt s.L v.W v.q kt kad = wd at *
                generalize hV : (⟨v.q, addsS v.R (restL v.W (kt, kad, kad + 1)), v.W⟩ : Vw) = V at *
                refine Tri.block ?_
                refine Tri.tree (.a (.b 55 false) (.a (.b 63 true) (.o [2, 0, 1, 3] [] hb0 (.a (.b 81 true) (.a (.b 84 false) (.a (.at [.int .u16 wd]) .nil)))))) rfl ?_
                repeat ((with_reducible apply And.intro); focus (first | exact True.intro | exact ⟨.inr rfl, rfl, by simp, by simp, by omega, by omega⟩ | (simp [leVs, leP, leE, leEs, leL, leC, rI, rwC, rwS, hX]; done) | omega | exact rfl))
                have f0 := (congrArg Option.isSome (Mo.get_set_ne (M := M) (k := 2) (j := 0) (v := V) (by decide))).trans e0
                have f1 := (congrArg Option.isSome (Mo.get_set_ne (M := M) (k := 2) (j := 1) (v := V) (by decide))).trans e1
                have f2 : ((M.set 2 V).get 2).isSome = true := by rw [Mo.get_set_eq]; rfl
                refine Tri.let [0, 1, 2, 3, 4, 5, 6, 10, 8] [] [0, 3, 4, 5, 6, 7] rfl trivial ?_
                exact Tri.go [] rfl ⟨by omega, trivial⟩ (again (ops.length - (i + 1)) (by omega) ⟨i + 1, s, _, _, did, _, _, _, rfl, by omega, hri, ⟨rfl, rfl, rfl⟩, by simp [hlO, cX, cA, upd, rA, rDd, rowD, f0, f1, f2] <;> omega, keep_of rfl (by simp)⟩)
                )
          · cases hv : M.get 2 with
            | none =>
              first
              | (exfalso; simp [hv] at e2; done)
              | (
                have hb0 := eO_read (e := rE9) (s := s) (M := M) (M' := M) (k := 2) (sp := (kt, kad, kad + 1)) (l := []) (r := 5) hgo.ok hvw (by unfold readR; rw [show spnR (kt, kad, kad + 1) = true by (simp [spnR]; omega), hv]; rfl)
                refine Tri.block ?_
                refine Tri.tree (.a (.b 55 false) (.a (.b 63 false) (.a (.b 63 true) (.o [2, 0, 1, 3] [] hb0 (.a (.b 81 false) .nil))))) rfl ?_
                repeat ((with_reducible apply And.intro); focus (first | exact True.intro | exact ⟨.inr rfl, rfl, by simp, by simp, by omega, by omega⟩ | (simp [leVs, leP, leE, leEs, leL, leC, rI, rwC, rwS, hX]; done) | omega | exact rfl))
                have f0 := e0
                have f1 := e1
                have f2 := e2
                refine Tri.let [0, 1, 2, 3, 4, 5, 6, 7, 8] [] [0, 3, 4, 5, 6, 7] rfl trivial ?_
                exact Tri.go [] rfl ⟨by omega, trivial⟩ (again (ops.length - (i + 1)) (by omega) ⟨i + 1, s, M, cur, did, _, _, _, rfl, by omega, hI.mono, ⟨rfl, rfl, rfl⟩, by simp [hlO, cX, cA, upd, rA, rDd, rowD, f0, f1, f2] <;> omega, keep_of rfl (by simp)⟩)
                )
            | some v =>
              first
              | (exfalso; simp [hv] at e2; done)
              | (
                have hri := hI.read hv had (t := kt)
                have hb0 := eO_read (e := rE9) (s := s) (M := M) (k := 2) hgo.ok hvw (hI.rdR hi80 hv ht had)
                generalize wordAt s.L v.W v.q kt kad = wd at *
                generalize hV : (⟨v.q, addsS v.R (restL v.W (kt, kad, kad + 1)), v.W⟩ : Vw) = V at *
                refine Tri.block ?_
                refine Tri.tree (.a (.b 55 false) (.a (.b 63 false) (.a (.b 63 true) (.o [2, 0, 1, 3] [] hb0 (.a (.b 81 true) (.a (.b 84 false) (.a (.at [.int .u16 wd]) .nil))))))) rfl ?_
                repeat ((with_reducible apply And.intro); focus (first | exact True.intro | exact ⟨.inr rfl, rfl, by simp, by simp, by omega, by omega⟩ | (simp [leVs, leP, leE, leEs, leL, leC, rI, rwC, rwS, hX]; done) | omega | exact rfl))
                have f0 := (congrArg Option.isSome (Mo.get_set_ne (M := M) (k := 2) (j := 0) (v := V) (by decide))).trans e0
                have f1 := (congrArg Option.isSome (Mo.get_set_ne (M := M) (k := 2) (j := 1) (v := V) (by decide))).trans e1
                have f2 : ((M.set 2 V).get 2).isSome = true := by rw [Mo.get_set_eq]; rfl
                refine Tri.let [0, 1, 2, 3, 4, 5, 6, 10, 8] [] [0, 3, 4, 5, 6, 7] rfl trivial ?_
                exact Tri.go [] rfl ⟨by omega, trivial⟩ (again (ops.length - (i + 1)) (by omega) ⟨i + 1, s, _, _, did, _, _, _, rfl, by omega, hri, ⟨rfl, rfl, rfl⟩, by simp [hlO, cX, cA, upd, rA, rDd, rowD, f0, f1, f2] <;> omega, keep_of rfl (by simp)⟩)
                )
          · cases hv : M.get 2 with
            | none =>
              first
              | (exfalso; simp [hv] at e2; done)
              | (
                have hb0 := eO_write (e := rE9) (s := s) (M := M) (M' := M) (k := 2) (l := [x]) (r := 5) (by simp) hvw (by unfold writeR; rw [show mayL [x] = true by simp [mayL, rightL, hcG.r], hv]; rfl)
                refine Tri.block ?_
                refine Tri.tree (.a (.b 55 false) (.a (.b 63 false) (.a (.b 63 false) (.a (.b 98 true) (.f [] hcell (.o [2, 0, 1, 3] [] hb0 (.a (.b 107 false) .nil))))))) rfl ?_
                repeat ((with_reducible apply And.intro); focus (first | exact True.intro | exact ⟨.inr rfl, rfl, by simp, by simp, by omega, by omega⟩ | (simp [leVs, leP, leE, leEs, leL, leC, rI, rwC, rwS, hX]; done) | omega | exact rfl))
                have f0 := e0
                have f1 := e1
                have f2 := e2
                refine Tri.let [0, 1, 2, 3, 4, 5, 6, 7, 8] [] [0, 3, 4, 5, 6, 7] rfl trivial ?_
                exact Tri.go [] rfl ⟨by omega, trivial⟩ (again (ops.length - (i + 1)) (by omega) ⟨i + 1, s, M, cur, did, _, _, _, rfl, by omega, hI.mono, ⟨rfl, rfl, rfl⟩, by simp [hlO, cX, cA, upd, rA, rDd, rowD, f0, f1, f2] <;> omega, keep_of rfl (by simp)⟩)
                )
            | some v =>
              first
              | (exfalso; simp [hv] at e2; done)
              | (
                have hri := hI.write hv hcG
                have hb0 := eO_write (e := rE9) (s := s) (M := M) (k := 2) (l := [x]) (by simp) hvw (hI.wrR hi80 hv hcG)
                generalize hV : (⟨v.q, v.R, putL v.W x⟩ : Vw) = V at *
                refine Tri.block ?_
                refine Tri.tree (.a (.b 55 false) (.a (.b 63 false) (.a (.b 63 false) (.a (.b 98 true) (.f [] hcell (.o [2, 0, 1, 3] [] hb0 (.a (.b 107 true) .nil))))))) rfl ?_
                repeat ((with_reducible apply And.intro); focus (first | exact True.intro | exact ⟨.inr rfl, rfl, by simp, by simp, by omega, by omega⟩ | (simp [leVs, leP, leE, leEs, leL, leC, rI, rwC, rwS, hX]; done) | omega | exact rfl))
                have f0 := (congrArg Option.isSome (Mo.get_set_ne (M := M) (k := 2) (j := 0) (v := V) (by decide))).trans e0
                have f1 := (congrArg Option.isSome (Mo.get_set_ne (M := M) (k := 2) (j := 1) (v := V) (by decide))).trans e1
                have f2 : ((M.set 2 V).get 2).isSome = true := by rw [Mo.get_set_eq]; rfl
                refine Tri.let [0, 1, 2, 3, 4, 5, 6, 11, 8] [] [0, 3, 4, 5, 6, 7] rfl trivial ?_
                exact Tri.go [] rfl ⟨by omega, trivial⟩ (again (ops.length - (i + 1)) (by omega) ⟨i + 1, s, _, _, did, _, _, _, rfl, by omega, hri, ⟨rfl, rfl, rfl⟩, by simp [hlO, cX, cA, upd, rA, rDd, rowD, f0, f1, f2] <;> omega, keep_of rfl (by simp)⟩)
                )
          · cases hv : M.get 2 with
            | none =>
              first
              | (exfalso; simp [hv] at e2; done)
              | (
                have hb0 := eO_commit (e := rE9) (s := s) (s' := s) (M := M) (M' := M) (k := 2) (a := 0) (r := 5) hgo hvw (by unfold comR; rw [hv])
                have hl0 := sLast_ok (s := s)
                refine Tri.block ?_
                refine Tri.tree (.a (.b 55 false) (.a (.b 63 false) (.a (.b 63 false) (.a (.b 98 false) (.a (.b 117 true) (.o [0, 1] [] hl0 (.o [2, 0, 1, 3] [] hb0 (.a (.b 128 false) .nil)))))))) rfl ?_
                repeat ((with_reducible apply And.intro); focus (first | exact True.intro | exact ⟨.inr rfl, rfl, by simp, by simp, by omega, by omega⟩ | (simp [leVs, leP, leE, leEs, leL, leC, rI, rwC, rwS, hX]; done) | omega | exact rfl))
                have f0 := e0
                have f1 := e1
                have f2 := e2
                refine Tri.let [0, 1, 2, 3, 4, 5, 6, 7, 8] [] [0, 3, 4, 5, 6, 7] rfl trivial ?_
                exact Tri.go [] rfl ⟨by omega, trivial⟩ (again (ops.length - (i + 1)) (by omega) ⟨i + 1, s, M, cur, did, _, _, _, rfl, by omega, hI.mono, ⟨rfl, rfl, rfl⟩, by simp [hlO, cX, cA, upd, rA, rDd, rowD, f0, f1, f2] <;> omega, keep_of rfl (by simp)⟩)
                )
            | some v =>
              first
              | (exfalso; simp [hv] at e2; done)
              | (
                have hl0 := sLast_ok (s := s)
                have hcr := hI.coR hi80 hv
                refine Tri.frz 7 4 2 ⟨_, _, _, _, _, rfl, rfl, rfl, by simp, rfl⟩ ?_
                refine Tri.block ?_
                by_cases hW : v.W = []
                · rw [if_pos hW] at hcr
                  have hb0 := eO_commit (e := rE9) hgo hvw hcr
                  refine Tri.tree (.a (.b 55 false) (.a (.b 63 false) (.a (.b 63 false) (.a (.b 98 false) (.a (.b 117 true) (.o [0, 1] [] hl0 (.o [2, 0, 1, 3] [] hb0 (.a (.b 128 true) (.o [0, 1] [] hl0 .nil))))))))) rfl ?_
                  repeat ((with_reducible apply And.intro); focus (first | exact True.intro | exact ⟨.inr rfl, rfl, by simp, by simp, by omega, by omega⟩ | (simp [leVs, leP, leE, leEs, leL, leC, rI, rwC, rwS, hX]; done) | omega | exact rfl))
                  have f0 := (congrArg Option.isSome (Mo.get_del_ne (M := M) (k := 2) (j := 0) (by decide))).trans e0
                  have f1 := (congrArg Option.isSome (Mo.get_del_ne (M := M) (k := 2) (j := 1) (by decide))).trans e1
                  have f2 : ((M.del 2).get 2).isSome = false := by rw [Mo.get_del hnd]; rfl
                  refine Tri.let [0, 1, 2, 3, 4, 5, 6, 7, 10] [] [0, 3, 4, 5, 6, 7] rfl trivial ?_
                  exact Tri.go [] rfl ⟨by omega, trivial⟩ (again (ops.length - (i + 1)) (by omega) ⟨i + 1, s, _, cur, _, _, _, _, rfl, by omega, hI.reader hv hW, ⟨rfl, rfl, rfl⟩, by simp [hlO, cX, cA, upd, rA, rDd, rowD, f0, f1, f2] <;> omega, keep_of rfl (by simp)⟩)
                · rw [if_neg hW] at hcr
                  cases hcl : clashS s.L v.q v.R with
                  | some kk =>
                    rw [hcl] at hcr
                    have hb0 := eO_commit (e := rE9) hgo hvw hcr
                    refine Tri.tree (.a (.b 55 false) (.a (.b 63 false) (.a (.b 63 false) (.a (.b 98 false) (.a (.b 117 true) (.o [0, 1] [] hl0 (.o [2, 0, 1, 3] [] hb0 (.a (.b 128 false) .nil)))))))) rfl ?_
                    repeat ((with_reducible apply And.intro); focus (first | exact True.intro | exact ⟨.inr rfl, rfl, by simp, by simp, by omega, by omega⟩ | (simp [leVs, leP, leE, leEs, leL, leC, rI, rwC, rwS, hX]; done) | omega | exact rfl))
                    have f0 := (congrArg Option.isSome (Mo.get_del_ne (M := M) (k := 2) (j := 0) (by decide))).trans e0
                    have f1 := (congrArg Option.isSome (Mo.get_del_ne (M := M) (k := 2) (j := 1) (by decide))).trans e1
                    have f2 : ((M.del 2).get 2).isSome = false := by rw [Mo.get_del hnd]; rfl
                    refine Tri.let [0, 1, 2, 3, 4, 5, 6, 7, 8] [] [0, 3, 4, 5, 6, 7] rfl trivial ?_
                    exact Tri.go [] rfl ⟨by omega, trivial⟩ (again (ops.length - (i + 1)) (by omega) ⟨i + 1, s, _, cur, did, _, _, _, rfl, by omega, hI.del (c := 2), ⟨rfl, rfl, rfl⟩, by simp [hlO, cX, cA, upd, rA, rDd, rowD, f0, f1, f2] <;> omega, keep_of rfl (by simp)⟩)
                  | none =>
                    rw [hcl] at hcr
                    have hb0 := eO_commit (e := rE9) hgo hvw hcr
                    have hri := hI.writer hi80 hv hcl
                    have hl1 := sLast_ok (s := ⟨s.last + 1, s.n + v.W.length, s.most, addsK s.L (s.last + 1) v.W⟩)
                    refine Tri.tree (.a (.b 55 false) (.a (.b 63 false) (.a (.b 63 false) (.a (.b 98 false) (.a (.b 117 true) (.o [0, 1] [] hl0 (.o [2, 0, 1, 3] [] hb0 (.a (.b 128 true) (.o [0, 1] [] hl1 .nil))))))))) rfl ?_
                    repeat ((with_reducible apply And.intro); focus (first | exact True.intro | exact ⟨.inr rfl, rfl, by simp, by simp, by omega, by omega⟩ | (simp [leVs, leP, leE, leEs, leL, leC, rI, rwC, rwS, hX]; done) | omega | exact rfl))
                    have f0 := (congrArg Option.isSome (Mo.get_del_ne (M := M) (k := 2) (j := 0) (by decide))).trans e0
                    have f1 := (congrArg Option.isSome (Mo.get_del_ne (M := M) (k := 2) (j := 1) (by decide))).trans e1
                    have f2 : ((M.del 2).get 2).isSome = false := by rw [Mo.get_del hnd]; rfl
                    refine Tri.let [0, 1, 2, 3, 4, 5, 6, 7, 10] [] [0, 3, 4, 5, 6, 7] rfl trivial ?_
                    exact Tri.go [] rfl ⟨by omega, trivial⟩ (again (ops.length - (i + 1)) (by omega) ⟨i + 1, _, _, cur, _, _, _, _, rfl, by omega, hri, ⟨rfl, rfl, rfl⟩, by simp [hlO, cX, cA, upd, rA, rDd, rowD, f0, f1, f2] <;> omega, keep_of rfl (by simp)⟩)
                )
)
    · have : i = ops.length := by omega
      subst this
      exact Tri.seq (Tri.go [.b 35 false] rfl ⟨decide_eq_false (by omega), trivial⟩ ⟨_, s, M, cur, did, o0, o1, o2, by omega, hI, rfl, keep_of rfl rfl⟩)
  rintro ρ hl' ⟨i, s, M, cur, did, o0, o1, o2, hi80, hI, rfl, hkk⟩
  refine Tri.keep _ hkk ?_
  have hrep := replay_ok (hI.good hi80)
  cases o0 <;> cases o1 <;> cases o2 <;> (
    refine Tri.treeR (.f [8] hrep .nil) rfl ?_
    repeat' apply And.intro
    all_goals first | exact True.intro | (simp [leVs, leP, leE, leEs, leL, leC]; done) | exact .refl _ | exact leP_refl _ | rfl)
end Go.Proofs.Ytpnbncdclgmegaa
