/-
  ExecRefuses.
-/
import Derived.Test.YthddlkhfkncgpaaGreatE16
import Derived.Test.YthddlkhfkncgpaaGreatE15
import Derived.Test.YthddlkhfkncgpaaGreatM26s
set_option maxRecDepth 100000
set_option maxHeartbeats 4000000
set_option linter.unusedVariables false
set_option linter.unusedSimpArgs false
namespace Go.Proofs.YthddlkhfkncgpaaGreat
open Go.RowKit

theorem sKeys_ok {s : St} : FnOk Tryz.prog 31 [vC (.ptr 0 0)] [stB s 1, stM s] (vI .i64 s.L.length) [stB s 1, stM s] := by
  refine FnOk.tree t31 (.a (.call [0, 1] [] .u []) .nil) rfl rfl rfl rfl ?_
  repeat' (with_reducible apply And.intro)
  all_goals first | trivial | rfl | exact .refl _ | exact leP_refl _ | (simp [leVs, leP, leE, leL, leC]; done)
def vwG (o : Option Vw) : Vw := o.getD ⟨0, [], []⟩
theorem vwR_eq (o : Option Vw) : vwR o = .tup [eVw (vwG o).q (vwG o).R (vwG o).W, .c (.t (.bool o.isSome))] := by cases o <;> rfl
/-- Sessions, with a configuration and a request behind them. -/
abbrev ssKa (x : Ss) (c : Cf) (a : Ask) : List Ob := [.box [.ptr 1 0, .t (.int .i64 x.t), .ptr 5 0, .mp 7], .box [.ptr 2 0, .t (.int .i64 x.e.most), .t (.int .i64 x.e.spans), .t (.int .i64 x.e.writes), .mp 4], stB x.s 3, stM x.s, eM x.M, .box [.t (.int .i64 x.t), .mp 6], bkM x.b, aM x.A, .box c.cs, .box a.cs]
def rawF : Ask := { fn := 4, n := 1 }
theorem rawF_fit : rawF.Fit := fitA (by simp [rawF, b64]) (by simp [rawF, b64]) (by simp [rawF, b64]) (by simp [rawF]) (by simp [rawF]) (by simp [rawF]) (by simp [rawF]) (by simp [rawF]) wrd_nil (by simp [rawF, b64]) (by simp [rawF, b64]) (by simp [rawF, b64]) (by simp [rawF, b64])
theorem remI' {i : Nat} : ((i : Int)).tmod 2 = ((i % 2 : Nat) : Int) := by
  rw [Int.tmod_eq_emod_of_nonneg (by omega)]; omega
theorem execRefuses_ok {ks la : List Int} {a : Ask} {k v : Int} (hfit : a.bits.length ≤ 1000000000000 ∧ a.words.length ≤ 1000000000000 → a.Fit) (hks : ∀ x ∈ ks, b64 x) (hla : ∀ x ∈ la, b64 x) (h1 : ks.length ≤ 9223372036854775807) (h2 : la.length ≤ 9223372036854775807) (hk : b64 k) (hv : b64 v) :
    FnOk Tryz.prog 5 [vD (lI .i64 ks), vD (lI .i64 la), vI .i64 k, vI .i64 v, a.v] [] (vB true) [] := by
  have ha := awake25_ok
  by_cases hn : 30 < la.length
  · refine FnOk.tree t5 (.a (.b 29 true) (.a (.b 35 true) (.a (.b 41 true) (.f [] ha .nil)))) rfl rfl rfl rfl ?_
    repeat' (with_reducible apply And.intro)
    all_goals first | trivial | rfl | (exact decide_eq_true (by omega)) | (simp [leVs, leP, leE, leL, leC]; done)
  by_cases hn2 : 200 < a.words.length
  · refine FnOk.tree t5 (.a (.b 29 false) (.a (.b 35 true) (.a (.b 41 true) (.f [] ha .nil)))) rfl rfl rfl rfl ?_
    repeat' (with_reducible apply And.intro)
    all_goals first | trivial | rfl | (exact decide_eq_true (by omega)) | (exact decide_eq_false (by omega)) | (simp [leVs, leP, leE, leL, leC]; done)
  by_cases hn3 : 2100 < a.bits.length
  · refine FnOk.tree t5 (.a (.b 29 false) (.a (.b 35 false) (.a (.b 41 true) (.f [] ha .nil)))) rfl rfl rfl rfl ?_
    repeat' (with_reducible apply And.intro)
    all_goals first | trivial | rfl | (exact decide_eq_true (by omega)) | (exact decide_eq_false (by omega)) | (simp [leVs, leP, leE, leL, leC]; done)
  have hf := hfit ⟨by omega, by omega⟩
  have hW := conf_ok hks h1
  have hS := sessions_ok (c := confC ks)
  have hC := confC_ok ks
  have hX := ssC_w (confC_lo ks)
  have hQ := ssC_q (confC ks)
  generalize ssC (confC ks) = y0 at *
  generalize confC ks = c at *
  refine FnOk.start t5 rfl rfl rfl ?_
  refine Tri.seq (Tri.go [] rfl trivial ?_)
  refine Tri.seq (Tri.tree (.a (.b 29 false) (.a (.b 35 false) (.a (.b 41 false) (.f [] ha .nil)))) rfl ⟨decide_eq_false (by omega), decide_eq_false (by omega), decide_eq_false (by omega), trivial, by simp [leVs], ?_⟩)
  refine Tri.seq (Tri.tree (.f [] hW .nil) rfl ⟨trivial, by simp [leVs], ?_⟩)
  refine Tri.seq (Tri.tree (.o [] [] hS .nil) rfl ⟨trivial, by simp [leVs, leP, leE, leL, leC], rfl, ?_⟩)
  refine Tri.seq (Tri.go [] rfl ⟨trivial, trivial⟩ ?_)
  refine Tri.let [2, 3, 4, 5, 6, 7, 8, 9, 1, 0] [] [1, 2, 3, 9, 11, 12] rfl trivial ?_
  refine Tri.mid (fun ρ hl => ∃ y, Sw y ∧ Sq y ∧ hl = ssKa y c a ∧ keepE ρ [2, 3, 9, 11, 12] = some [(2, vI .i64 k), (3, vI .i64 v), (9, vC (.ptr 9 0)), (11, vC (.ptr 8 0)), (12, vC (.ptr 0 0))]) ?_ ?_
  · refine Tri.seq (Tri.go [] rfl trivial ?_)
    refine Tri.block ?_
    refine Tri.lp (fun z ρ hl => ∃ (i : Nat) (y : Ss), z = la.length - i ∧ i ≤ la.length ∧ Sw y ∧ Sq y ∧ hl = ssKa y c a ∧
      keepE ρ [1, 2, 3, 9, 11, 12, 14] = some [(1, vD (lI .i64 la)), (2, vI .i64 k), (3, vI .i64 v), (9, vC (.ptr 9 0)), (11, vC (.ptr 8 0)), (12, vC (.ptr 0 0)), (14, vI .i64 i)]) la.length ⟨0, y0, by omega, by omega, hX, hQ, rfl, keep_of rfl (by simp)⟩ ?_
    rintro z ρ hl' ⟨i, y, rfl, hi, hO, hQ, rfl, hkk⟩
    refine Tri.keep _ hkk ?_
    by_cases hA' : la.length ≤ i
    · exact Tri.go [.b 58 false] rfl ⟨decide_eq_false (by omega), trivial⟩ (outQ ⟨y, hO, hQ, rfl, keep_of rfl rfl⟩)
    have hA : i < la.length := by omega
    have hg : (rI .i64 la)[i]? = some [.int .i64 la[i]] := by simp [rI, hA]
    have hb := hla _ (List.getElem_mem hA)
    generalize la[i] = p at *
    have hnx := next_ok hb hb (raw := rawF)
    have hnf := nextA_fit (k := p) (v := p) rawF_fit
    have hd1 := do_ok hC hO (k := ((i : Int)).tmod 2) hnf
    have hD := hO.do (k := ((i : Int)).tmod 2) (c := c) (a := nextA p p rawF)
    have hE := (hQ.do (k := ((i : Int)).tmod 2) (c := c) (a := nextA p p rawF)).1
    generalize doR c y ((i : Int).tmod 2) (nextA p p rawF) = rr at *
    obtain ⟨t, y2⟩ := rr
    simp only at hD hd1 hE
    refine Tri.seq (Tri.go [.b 58 true] rfl ⟨decide_eq_true (by omega), trivial⟩ ?_)
    refine Tri.seq (Tri.block (Tri.tree (.a (.at [.int .i64 p]) (.a (.at [.int .i64 p]) (.f [] hnx (.o [0, 1, 2, 3, 4, 5, 6, 7] [] hd1 .nil)))) rfl ?_))
    refine ⟨by omega, ⟨by omega, rfl, hg⟩, ⟨by omega, rfl, hg⟩, trivial, by simp [leVs, leP, leE, leL, leC, rawF], trivial, by simp [leVs, leP, leE, leL, leC], rfl, ?_⟩
    exact Tri.go [] rfl ⟨by omega, trivial⟩ (again (la.length - (i + 1)) (by omega) ⟨i + 1, y2, rfl, by omega, hD, hE, rfl, keep_of rfl (by simp)⟩)
  clear hX hQ hS
  rintro ρ hl' ⟨y, hX, hQ, rfl, hkk⟩
  refine Tri.keep _ hkk ?_
  have hst := state_ok (x := y) (c := 0)
  have he := sEngine_ok (x := y)
  have hes := eStore_ok (e := y.e) (s := y.s) (M := y.M)
  have hl1 := sLast_ok (s := y.s)
  have hl2 := sVers_ok (s := y.s)
  have hl3 := sKeys_ok (s := y.s)
  have hvw := eView_ok (e := y.e) (s := y.s) (M := y.M) (k := 0) (hX.v.go 0).v
  rw [vwR_eq] at hvw
  refine Tri.seq (Tri.tree (.o [0, 1, 2, 3, 4, 5, 6, 7] [] hst .nil) rfl ⟨trivial, by simp [leVs, leP, leE, leL, leC], rfl, ?_⟩)
  refine Tri.seq (Tri.tree (.o [0, 1, 2, 3, 4, 5, 6, 7] [] he (.o [1, 2, 3, 4] [] hes .nil)) rfl ⟨trivial, by simp [leVs, leP, leE, leL, leC], rfl, trivial, by simp [leVs, leP, leE, leL, leC], rfl, ?_⟩)
  refine Tri.seq (Tri.tree (.o [2, 3] [] hl1 (.o [2, 3] [] hl2 (.o [2, 3] [] hl3 .nil))) rfl ⟨trivial, by simp [leVs, leP, leE, leL, leC], rfl, trivial, by simp [leVs, leP, leE, leL, leC], rfl, trivial, by simp [leVs, leP, leE, leL, leC], rfl, ?_⟩)
  refine Tri.seq (Tri.tree (.o [0, 1, 2, 3, 4, 5, 6, 7] [] he (.o [1, 2, 3, 4] [] hvw .nil)) rfl ⟨trivial, by simp [leVs, leP, leE, leL, leC], rfl, trivial, by simp [leVs, leP, leE, leL, leC], rfl, ?_⟩)
  have hnx := next_ok hk hv (raw := a)
  have hnf := nextA_fit (k := k) (v := v) hf
  have hdo := do_ok hC hX (k := 0) hnf
  have hD := hX.do (k := 0) (c := c) (a := nextA k v a)
  obtain ⟨_, hR⟩ := hQ.do (k := 0) (c := c) (a := nextA k v a)
  have hvR : (vwG (y.M.get 0)).R.length ≤ 1000000 ∧ (vwG (y.M.get 0)).W.length ≤ 1000000 := by
    cases hg : y.M.get 0 with
    | none => simp [vwG]
    | some u => exact ⟨((hX.v.go 0).v u hg).R, ((hX.v.go 0).v u hg).W⟩
  have hss := sameSpans_ok (l := (vwG (y.M.get 0)).R) (by omega)
  have hsc := sameCells_ok (l := (vwG (y.M.get 0)).W) (by omega)
  have hst2 := state_ok (x := (doR c y 0 (nextA k v a)).2) (c := 0)
  have he2 := sEngine_ok (x := (doR c y 0 (nextA k v a)).2)
  have hvw2 := eView_ok (e := (doR c y 0 (nextA k v a)).2.e) (s := (doR c y 0 (nextA k v a)).2.s) (M := (doR c y 0 (nextA k v a)).2.M) (k := 0) (hD.v.go 0).v
  have hl12 := sLast_ok (s := (doR c y 0 (nextA k v a)).2.s)
  have hl22 := sVers_ok (s := (doR c y 0 (nextA k v a)).2.s)
  have hl32 := sKeys_ok (s := (doR c y 0 (nextA k v a)).2.s)
  rw [vwR_eq] at hvw2
  generalize doR c y 0 (nextA k v a) = rr at *
  obtain ⟨t, y2⟩ := rr
  simp only at hdo hD hR hst2 he2 hvw2 hl12 hl22 hl32
  refine Tri.seq (Tri.tree (.f [] hnx (.o [0, 1, 2, 3, 4, 5, 6, 7] [] hdo .nil)) rfl ⟨trivial, by simp [leVs, leP, leE, leL, leC], trivial, by simp [leVs, leP, leE, leL, leC], rfl, ?_⟩)
  by_cases h0 : t.exc = 0
  · exact Tri.seq (Tri.go [.b 102 true] rfl ⟨by simp [h0], trivial⟩ (RetQ.of [] [] rfl trivial (.refl _) rfl))
  refine Tri.seq (Tri.go [.b 102 false] rfl ⟨by simp [h0], trivial⟩ ?_)
  have hs : y2.s = y.s := by
    rcases hR with h | h | h
    · exact absurd h h0
    · rw [h]
    · exact h.2.s
  refine Tri.seq (Tri.tree (.o [2, 3] [] hl12 (.a (.b 107 false) (.o [2, 3] [] hl22 (.a (.b 113 false) (.o [2, 3] [] hl32 (.a (.b 118 false) .nil)))))) rfl ?_)
  refine ⟨trivial, by simp [leVs, leP, leE, leL, leC], rfl, by simp [hs], trivial, by simp [leVs, leP, leE, leL, leC], rfl, by simp [hs], trivial, by simp [leVs, leP, leE, leL, leC], rfl, by simp [hs], ?_⟩
  refine Tri.seq (Tri.tree (.o [0, 1, 2, 3, 4, 5, 6, 7] [] hst2 .nil) rfl ⟨trivial, by simp [leVs, leP, leE, leL, leC], rfl, ?_⟩)
  rcases hR with h | h | ⟨h4, hL⟩
  · exact absurd h h0
  · subst h
    by_cases hst1 : (stG y2.A 0).st = 1
    · refine Tri.seq (Tri.go [.b 124 true, .b 128 false] rfl ⟨by simp [hst1], by simp [hst1], trivial⟩ ?_)
      refine Tri.seq (Tri.tree (.o [0, 1, 2, 3, 4, 5, 6, 7] [] he2 (.o [1, 2, 3, 4] [] hvw2 .nil)) rfl ⟨trivial, by simp [leVs, leP, leE, leL, leC], rfl, trivial, by simp [leVs, leP, leE, leL, leC], rfl, ?_⟩)
      refine Tri.treeR (.a (.b 151 true) (.a (.b 156 true) (.a (.b 163 true) (.f [] hss (.a (.b 170 true) (.f [] hsc .nil)))))) rfl ?_
      repeat' (with_reducible apply And.intro)
      all_goals first | trivial | rfl | exact .refl _ | exact leP_refl _ | (simp [leVs, leP, leE, leEs, leL, leC]; done)
    · refine Tri.seq (Tri.go [.b 124 false, .b 128 false] rfl ⟨by simp [hst1], by simp, trivial⟩ ?_)
      refine Tri.seq (Tri.tree (.o [0, 1, 2, 3, 4, 5, 6, 7] [] he2 (.o [1, 2, 3, 4] [] hvw2 .nil)) rfl ⟨trivial, by simp [leVs, leP, leE, leL, leC], rfl, trivial, by simp [leVs, leP, leE, leL, leC], rfl, ?_⟩)
      refine Tri.treeR (.a (.b 151 true) (.a (.b 156 true) (.a (.b 163 true) (.f [] hss (.a (.b 170 true) (.f [] hsc .nil)))))) rfl ?_
      repeat' (with_reducible apply And.intro)
      all_goals first | trivial | rfl | exact .refl _ | exact leP_refl _ | (simp [leVs, leP, leE, leEs, leL, leC]; done)
  · refine Tri.seq (Tri.tree (.a (.b 124 true) (.a (.b 128 true) (.a (.b 132 true) (.a (.b 137 true) .nil)))) rfl ?_)
    exact ⟨by simp [hL.was], by simp [hL.now], by simp [h4], by simp [hL.r0], RetQ.of [] [] rfl trivial (leP_ok (by simp [leP, leE, leC, hL.r1])) rfl⟩
end Go.Proofs.YthddlkhfkncgpaaGreat
