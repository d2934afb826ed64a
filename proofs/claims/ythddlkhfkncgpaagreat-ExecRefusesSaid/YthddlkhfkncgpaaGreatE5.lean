/-
  Lists of spans: Grow, Concat, ContainsFunc; where a request is; who the device is; commands.
-/
import Derived.Test.YthddlkhfkncgpaaGreatE4
import Derived.Test.YthddlkhfkncgpaaGreatE1
import Derived.Test.YthddlkhfkncgpaaGreatI1
set_option maxRecDepth 100000
set_option maxHeartbeats 1000000
set_option linter.unusedVariables false
set_option linter.unusedSimpArgs false
namespace Go.Proofs.YthddlkhfkncgpaaGreat
open Go.RowKit

theorem grow_ok {n : Nat} (h : 0 < n) (hn : n ≤ 1000000) : FnOk Tryz.prog 123 [vD .nil, vI .i64 n] [] (vC (.sl 0 0 0)) [.arr 3 []] := by
  refine FnOk.tree t123 (.a (.b 6 false) (.a (.b 16 true) (.a (.call [0] [] .u []) .nil))) rfl rfl rfl rfl ?_
  have e : ((n : Int) - (0 - ((0 : Nat) : Int))).toNat = n := by omega
  repeat' apply And.intro
  all_goals first | trivial | omega | exact decide_eq_false (by omega) | exact decide_eq_true (by omega) | (simp; done) | (simp; omega) | exact .cons (.arr 0) .nil | (simp [leP, leE, leC]; done)
theorem concat_ok {r w : List Spn} (h : 0 < r.length + w.length) (hn : r.length + w.length ≤ 1000000) : FnOk Tryz.prog 65 [vL 1 2 [[lSp r], [lSp w]]] [] (vSp (r ++ w)) [] := by
  have hg := grow_ok h hn
  refine FnOk.start t65 rfl rfl rfl ?_
  refine Tri.seq (Tri.go [] rfl trivial ?_)
  refine Tri.seq (Tri.go [] rfl trivial ?_)
  refine Tri.mid (fun ρ hl => hl = [] ∧ keepE ρ [0, 3] = some [(0, vL 1 2 [[lSp r], [lSp w]]), (3, vI .i64 (r.length + w.length : Nat))]) ?_ ?_
  · refine Tri.seq (Tri.go [] rfl trivial ?_)
    refine Tri.block ?_
    refine Tri.lp (fun q ρ hl => ∃ i s : Nat, q = 2 - i ∧ (i = 0 ∧ s = 0 ∨ i = 1 ∧ s = r.length ∨ i = 2 ∧ s = r.length + w.length) ∧ hl = [] ∧ keepE ρ [0, 3, 9, 10, 11] = some [(0, vL 1 2 [[lSp r], [lSp w]]), (3, vI .i64 s), (9, vL 1 2 [[lSp r], [lSp w]]), (10, vI .i64 (2 : Nat)), (11, vI .i64 i)]) 2 ⟨0, 0, by omega, .inl ⟨rfl, rfl⟩, rfl, keep_of rfl rfl⟩ ?_
    rintro q ρ hl' ⟨i, s, rfl, hc, rfl, hkk⟩
    refine Tri.keep _ hkk ?_
    rcases hc with ⟨rfl, rfl⟩ | ⟨rfl, rfl⟩ | ⟨rfl, rfl⟩
    · refine Tri.seq (Tri.go [] rfl trivial (Tri.seq (Tri.go [.b 12 true] rfl ⟨rfl, trivial⟩ ?_)))
      refine Tri.seq (Tri.block (Tri.seq (Tri.tree (.a (.at [lSp r]) .nil) rfl ⟨⟨by simp, rfl, rfl⟩, ?_⟩)))
      refine Tri.seq (Tri.tree .nil rfl ⟨by first | omega | (simp; omega), ?_⟩)
      refine Tri.seq (Tri.go [] rfl trivial ?_)
      refine Tri.cond rfl (fun h => by simp at h; omega) (fun _ => ?_)
      exact Tri.skip (Tri.go [] rfl ⟨by omega, trivial⟩ (again 1 (by omega) ⟨1, r.length, rfl, .inr (.inl ⟨rfl, rfl⟩), rfl, keep_of rfl (by first | rfl | simp)⟩))
    · refine Tri.seq (Tri.go [] rfl trivial (Tri.seq (Tri.go [.b 12 true] rfl ⟨rfl, trivial⟩ ?_)))
      refine Tri.seq (Tri.block (Tri.seq (Tri.tree (.a (.at [lSp w]) .nil) rfl ⟨⟨by simp, rfl, rfl⟩, ?_⟩)))
      refine Tri.seq (Tri.tree .nil rfl ⟨by first | omega | (simp; omega), ?_⟩)
      refine Tri.seq (Tri.go [] rfl trivial ?_)
      refine Tri.cond rfl (fun h => by simp at h; omega) (fun _ => ?_)
      exact Tri.skip (Tri.go [] rfl ⟨by omega, trivial⟩ (again 0 (by omega) ⟨2, r.length + w.length, rfl, .inr (.inr ⟨rfl, rfl⟩), rfl, keep_of rfl (by simp)⟩))
    · exact Tri.seq (Tri.go [] rfl trivial (Tri.seq (Tri.go [.b 12 false] rfl ⟨rfl, trivial⟩ (And.intro rfl (keep_of rfl rfl)))))
  rintro ρ hl' ⟨rfl, hkk⟩
  refine Tri.keep _ hkk ?_
  refine Tri.seq (Tri.tree (.o [] [] hg .nil) rfl ⟨trivial, by simp [leVs, leP, leE, leC], rfl, ?_⟩)
  refine Tri.mid (fun ρ hl => hl = [.arr 3 (rwS (r ++ w))] ∧ keepE ρ [6] = some [(6, vC (.sl 0 0 (r ++ w).length))]) ?_ ?_
  · refine Tri.seq (Tri.go [] rfl trivial ?_)
    refine Tri.block ?_
    refine Tri.lp (fun q ρ hl => ∃ (i : Nat) (X : List Spn), q = 2 - i ∧ (i = 0 ∧ X = [] ∨ i = 1 ∧ X = r ∨ i = 2 ∧ X = r ++ w) ∧ hl = [.arr 3 (rwS X)] ∧ keepE ρ [6, 25, 26, 27] = some [(6, vC (.sl 0 0 X.length)), (25, vL 1 2 [[lSp r], [lSp w]]), (26, vI .i64 (2 : Nat)), (27, vI .i64 i)]) 2 ⟨0, [], by omega, .inl ⟨rfl, rfl⟩, rfl, keep_of rfl rfl⟩ ?_
    rintro q ρ hl' ⟨i, X, rfl, hc, rfl, hkk⟩
    refine Tri.keep _ hkk ?_
    rcases hc with ⟨rfl, rfl⟩ | ⟨rfl, rfl⟩ | ⟨rfl, rfl⟩
    · refine Tri.seq (Tri.go [] rfl trivial (Tri.seq (Tri.go [.b 28 true] rfl ⟨rfl, trivial⟩ ?_)))
      refine Tri.seq (Tri.block (Tri.seq (Tri.tree (.a (.at [lSp r]) .nil) rfl ⟨⟨by simp, rfl, rfl⟩, ?_⟩)))
      refine Tri.tree .nil rfl ⟨⟨.inr rfl, rfl, by simp, by simp, by simp; omega, by simp; omega⟩, ?_⟩
      refine Tri.let [1] [] [6, 25, 26, 27] rfl trivial ?_
      exact Tri.go [] rfl ⟨by omega, trivial⟩ (again 1 (by omega) ⟨1, r, rfl, .inr (.inl ⟨rfl, rfl⟩), by simp [List.take_of_length_le], keep_of rfl (by simp)⟩)
    · refine Tri.seq (Tri.go [] rfl trivial (Tri.seq (Tri.go [.b 28 true] rfl ⟨rfl, trivial⟩ ?_)))
      refine Tri.seq (Tri.block (Tri.seq (Tri.tree (.a (.at [lSp w]) .nil) rfl ⟨⟨by simp, rfl, rfl⟩, ?_⟩)))
      refine Tri.tree .nil rfl ⟨⟨.inr rfl, rfl, by simp, by simp, by omega, by omega⟩, ?_⟩
      refine Tri.let [1] [] [6, 25, 26, 27] rfl trivial ?_
      exact Tri.go [] rfl ⟨by omega, trivial⟩ (again 0 (by omega) ⟨2, X ++ w, rfl, .inr (.inr ⟨rfl, rfl⟩), by simp [List.take_of_length_le, rwS_app], keep_of rfl (by simp)⟩)
    · exact Tri.seq (Tri.go [] rfl trivial (Tri.seq (Tri.go [.b 28 false] rfl ⟨rfl, trivial⟩ (And.intro rfl (keep_of rfl rfl)))))
  rintro ρ hl' ⟨rfl, hkk⟩
  refine Tri.keep _ hkk ?_
  exact Tri.treeR (.a (.call [] [0] .u []) .nil) rfl ⟨⟨by simp, trivial⟩, .nil, by simp [leP, leE, leC, List.take_of_length_le]⟩
/-- A configuration. -/
structure Cf where
  map : List Spn
  groups : List Spn
  window : Int
  lease : Int
  conns : Int
  sessions : Int
  versions : Int
  spans : Int
  writes : Int
  in_ : Int
  out : Int
  first : Int
  objs : List Obj
abbrev Cf.cs (c : Cf) : List C := [.t (lSp c.map), .t (lSp c.groups), .t (.int .i64 c.window), .t (.int .i64 c.lease), .t (.int .i64 c.conns), .t (.int .i64 c.sessions), .t (.int .i64 c.versions), .t (.int .i64 c.spans), .t (.int .i64 c.writes), .t (.int .i64 c.in_), .t (.int .i64 c.out), .t (.int .u64 c.first), .t (lO c.objs)]
abbrev Cf.v (c : Cf) : V := .e (.agg c.cs)
structure Cf.Ok (c : Cf) : Prop where
  map : c.map.length ≤ 1000000
  groups : c.groups.length ≤ 1000000
  gr : ∀ g ∈ c.groups, GrB g
  window : 0 ≤ c.window ∧ c.window ≤ 1000000
  objs : c.objs.length ≤ 1000000
  ob : ∀ o ∈ c.objs, b64 o.1 ∧ o.2.size ≤ 1000000
/-- Where the first span is of which p holds. -/
def idxS (p : Spn → Bool) : Nat → List Spn → Int
  | _, [] => -1
  | i, o :: l => if p o then (i : Int) else idxS p (i + 1) l
theorem idxS_cons (p : Spn → Bool) (i : Nat) (o : Spn) (l : List Spn) : idxS p i (o :: l) = if p o then (i : Int) else idxS p (i + 1) l := rfl
theorem idxS_any (p : Spn → Bool) : ∀ (l : List Spn) (i : Nat), decide (0 ≤ idxS p i l) = l.any p
  | [], i => rfl
  | o :: l, i => by
    rw [idxS_cons, List.any_cons]
    cases h : p o with
    | true => simp
    | false => simpa using idxS_any p l (i + 1)
theorem indexS2_ok {f : FuncId} {p : Spn → Bool} {c : Cf} {k : Int} (hp : ∀ o, FnOk Tryz.prog f [vS3 o, vC (.ptr 0 0), vC (.ptr 1 0)] [.box c.cs, .box [.t (.int .i64 k)]] (vB (p o)) [.box c.cs, .box [.t (.int .i64 k)]]) {l : List Spn} (hl : l.length ≤ 1000000000000) :
    FnOk Tryz.prog 129 [vSp l, vC (.fn f [.ptr 0 0, .ptr 1 0])] [.box c.cs, .box [.t (.int .i64 k)]] (vI .i64 (idxS p 0 l)) [.box c.cs, .box [.t (.int .i64 k)]] := by
  refine FnOk.start t129 rfl rfl rfl ?_
  refine Tri.seq (Tri.go [] rfl trivial ?_)
  refine Tri.mid (fun ρ hl => hl = [.box c.cs, .box [.t (.int .i64 k)]] ∧ idxS p 0 l = -1 ∧ keepE ρ [0] = some [(0, vSp l)]) ?_ ?_
  · refine Tri.seq (Tri.go [] rfl trivial ?_)
    refine Tri.block ?_
    refine Tri.lp (fun q ρ hl => ∃ i, q = l.length - i ∧ i ≤ l.length ∧ idxS p 0 l = idxS p i (l.drop i) ∧ hl = [.box c.cs, .box [.t (.int .i64 k)]] ∧ keepE ρ [0, 1, 7, 8] = some [(0, vSp l), (1, vC (.fn f [.ptr 0 0, .ptr 1 0])), (7, vI .i64 l.length), (8, vI .i64 i)]) l.length ⟨0, by omega, by omega, rfl, rfl, keep_of rfl rfl⟩ ?_
    rintro q ρ hl' ⟨i, rfl, hi, he, rfl, hkk⟩
    refine Tri.keep _ hkk ?_
    by_cases h : i < l.length
    · have hg := rwS_get h
      rw [List.drop_eq_getElem_cons h] at he
      generalize l[i] = o at *
      rw [idxS_cons] at he
      have hpo := hp o
      cases hpb : p o with
      | true =>
        rw [hpb] at he hpo
        refine Tri.seq (Tri.go [] rfl trivial (Tri.seq (Tri.go [.b 9 true] rfl ⟨decide_eq_true (by omega), trivial⟩ ?_)))
        refine Tri.tree (.a (.at [.int .i64 o.1, .int .i64 o.2.1, .int .i64 o.2.2]) (.a (.call [0, 1] [] (vB true) [.box c.cs, .box [.t (.int .i64 k)]]) .nil)) rfl ⟨⟨by omega, rfl, hg⟩, by simp, trivial, hpo, ?_⟩
        rw [he, if_pos rfl]
        exact RetQ.le [0, 1] [] rfl trivial (.refl _) (.refl _)
      | false =>
        rw [hpb] at he hpo
        refine Tri.seq (Tri.go [] rfl trivial (Tri.seq (Tri.go [.b 9 true] rfl ⟨decide_eq_true (by omega), trivial⟩ ?_)))
        refine Tri.seq (Tri.block (Tri.seq (Tri.go [] rfl trivial ?_)))
        refine Tri.tree (.a (.at [.int .i64 o.1, .int .i64 o.2.1, .int .i64 o.2.2]) (.a (.call [0, 1] [] (vB false) [.box c.cs, .box [.t (.int .i64 k)]]) .nil)) rfl ⟨⟨by omega, rfl, hg⟩, by simp, trivial, hpo, ?_⟩
        exact Tri.go [] rfl ⟨by omega, trivial⟩ (again (l.length - (i + 1)) (by omega) ⟨i + 1, rfl, by omega, by simpa using he, rfl, keep_of rfl (by simp)⟩)
    · have : i = l.length := by omega
      subst this
      rw [List.drop_length] at he
      exact Tri.seq (Tri.go [] rfl trivial (Tri.seq (Tri.go [.b 9 false] rfl ⟨decide_eq_false (by omega), trivial⟩ (And.intro rfl (And.intro he (keep_of rfl rfl))))))
  rintro ρ hl' ⟨rfl, he, hkk⟩
  refine Tri.keep _ hkk ?_
  rw [he]
  exact Tri.treeR (.a (.call [0, 1] [] .u []) .nil) rfl ⟨trivial, .refl _, by simp [leP, leE, leC]⟩
theorem indexS1_ok {f : FuncId} {p : Spn → Bool} {c : Cf} (hp : ∀ o, FnOk Tryz.prog f [vS3 o, vC (.ptr 0 0)] [.box c.cs] (vB (p o)) [.box c.cs]) {l : List Spn} (hl : l.length ≤ 1000000000000) :
    FnOk Tryz.prog 129 [vSp l, vC (.fn f [.ptr 0 0])] [.box c.cs] (vI .i64 (idxS p 0 l)) [.box c.cs] := by
  refine FnOk.start t129 rfl rfl rfl ?_
  refine Tri.seq (Tri.go [] rfl trivial ?_)
  refine Tri.mid (fun ρ hl => hl = [.box c.cs] ∧ idxS p 0 l = -1 ∧ keepE ρ [0] = some [(0, vSp l)]) ?_ ?_
  · refine Tri.seq (Tri.go [] rfl trivial ?_)
    refine Tri.block ?_
    refine Tri.lp (fun q ρ hl => ∃ i, q = l.length - i ∧ i ≤ l.length ∧ idxS p 0 l = idxS p i (l.drop i) ∧ hl = [.box c.cs] ∧ keepE ρ [0, 1, 7, 8] = some [(0, vSp l), (1, vC (.fn f [.ptr 0 0])), (7, vI .i64 l.length), (8, vI .i64 i)]) l.length ⟨0, by omega, by omega, rfl, rfl, keep_of rfl rfl⟩ ?_
    rintro q ρ hl' ⟨i, rfl, hi, he, rfl, hkk⟩
    refine Tri.keep _ hkk ?_
    by_cases h : i < l.length
    · have hg := rwS_get h
      rw [List.drop_eq_getElem_cons h] at he
      generalize l[i] = o at *
      rw [idxS_cons] at he
      have hpo := hp o
      cases hpb : p o with
      | true =>
        rw [hpb] at he hpo
        refine Tri.seq (Tri.go [] rfl trivial (Tri.seq (Tri.go [.b 9 true] rfl ⟨decide_eq_true (by omega), trivial⟩ ?_)))
        refine Tri.tree (.a (.at [.int .i64 o.1, .int .i64 o.2.1, .int .i64 o.2.2]) (.a (.call [0] [] (vB true) [.box c.cs]) .nil)) rfl ⟨⟨by omega, rfl, hg⟩, by simp, trivial, hpo, ?_⟩
        rw [he, if_pos rfl]
        exact RetQ.le [0] [] rfl trivial (.refl _) (.refl _)
      | false =>
        rw [hpb] at he hpo
        refine Tri.seq (Tri.go [] rfl trivial (Tri.seq (Tri.go [.b 9 true] rfl ⟨decide_eq_true (by omega), trivial⟩ ?_)))
        refine Tri.seq (Tri.block (Tri.seq (Tri.go [] rfl trivial ?_)))
        refine Tri.tree (.a (.at [.int .i64 o.1, .int .i64 o.2.1, .int .i64 o.2.2]) (.a (.call [0] [] (vB false) [.box c.cs]) .nil)) rfl ⟨⟨by omega, rfl, hg⟩, by simp, trivial, hpo, ?_⟩
        exact Tri.go [] rfl ⟨by omega, trivial⟩ (again (l.length - (i + 1)) (by omega) ⟨i + 1, rfl, by omega, by simpa using he, rfl, keep_of rfl (by simp)⟩)
    · have : i = l.length := by omega
      subst this
      rw [List.drop_length] at he
      exact Tri.seq (Tri.go [] rfl trivial (Tri.seq (Tri.go [.b 9 false] rfl ⟨decide_eq_false (by omega), trivial⟩ (And.intro rfl (And.intro he (keep_of rfl rfl))))))
  rintro ρ hl' ⟨rfl, he, hkk⟩
  refine Tri.keep _ hkk ?_
  rw [he]
  exact Tri.treeR (.a (.call [0] [] .u []) .nil) rfl ⟨trivial, .refl _, by simp [leP, leE, leC]⟩
theorem in_ok {c : Cf} (hc : c.Ok) {k : Int} {s : Spn} : FnOk Tryz.prog 67 [vS3 s, vC (.ptr 0 0), vC (.ptr 1 0)] [.box c.cs, .box [.t (.int .i64 k)]] (vB (whereS c.map c.window s == k)) [.box c.cs, .box [.t (.int .i64 k)]] := by
  have h := where_ok (m := c.map) (w := c.window) (s := s) (by have := hc.map; omega) hc.window
  refine FnOk.tree t67 (.f [] h (.a (.call [0, 1] [] .u []) .nil)) rfl rfl rfl rfl ?_
  repeat' apply And.intro
  all_goals first | trivial | rfl | exact .refl _ | exact leP_refl _ | (simp [leVs, leP, leE, leEs, leL, leC]; done)
theorem mkIn_ok {c : Cf} {k : Int} : FnOk Tryz.prog 66 [vI .i64 k, vC (.ptr 0 0)] [.box c.cs] (vC (.fn 67 [.ptr 0 0, .ptr 1 0])) [.box c.cs, .box [.t (.int .i64 k)]] := by
  refine FnOk.tree t66 (.a (.call [0, 1] [] .u []) .nil) rfl rfl rfl rfl ?_
  repeat' apply And.intro
  all_goals first | trivial | rfl | exact .refl _ | exact leP_refl _ | (simp [leVs, leP, leE, leEs, leL, leC]; done)
theorem spl_ok {c : Cf} (hc : c.Ok) {s : Spn} : FnOk Tryz.prog 69 [vS3 s, vC (.ptr 0 0)] [.box c.cs] (vB (splitsS c.groups s)) [.box c.cs] := by
  have h := splits_ok (l := c.groups) (s := s) (by have := hc.groups; omega) hc.gr
  refine FnOk.tree t69 (.f [] h (.a (.call [0] [] .u []) .nil)) rfl rfl rfl rfl ?_
  repeat' apply And.intro
  all_goals first | trivial | rfl | exact .refl _ | exact leP_refl _ | (simp [leVs, leP, leE, leEs, leL, leC]; done)
theorem anyIn_ok {c : Cf} (hc : c.Ok) {k : Int} {l : List Spn} (hl : l.length ≤ 1000000) : FnOk Tryz.prog 71 [vSp l, vC (.fn 67 [.ptr 0 0, .ptr 1 0])] [.box c.cs, .box [.t (.int .i64 k)]] (vB (l.any fun s => whereS c.map c.window s == k)) [.box c.cs, .box [.t (.int .i64 k)]] := by
  have hi := indexS2_ok (p := fun s => whereS c.map c.window s == k) (fun o => in_ok hc (k := k) (s := o)) (l := l) (by omega)
  have ha := idxS_any (fun s => whereS c.map c.window s == k) l 0
  refine FnOk.tree t71 (.o [0, 1] [] hi (.a (.call [0, 1] [] .u []) .nil)) rfl rfl rfl rfl ?_
  exact ⟨trivial, by simp [leVs, leP, leE, leL, leC], rfl, trivial, .refl _, by rw [← ha]; exact leP_refl _⟩
theorem anySpl_ok {c : Cf} (hc : c.Ok) {l : List Spn} (hl : l.length ≤ 1000000) : FnOk Tryz.prog 71 [vSp l, vC (.fn 69 [.ptr 0 0])] [.box c.cs] (vB (l.any fun s => splitsS c.groups s)) [.box c.cs] := by
  have hi := indexS1_ok (p := fun s => splitsS c.groups s) (fun o => spl_ok hc (s := o)) (l := l) (by omega)
  have ha := idxS_any (fun s => splitsS c.groups s) l 0
  refine FnOk.tree t71 (.o [0] [] hi (.a (.call [0] [] .u []) .nil)) rfl rfl rfl rfl ?_
  exact ⟨trivial, by simp [leVs, leP, leE, leL, leC], rfl, trivial, .refl _, by rw [← ha]; exact leP_refl _⟩
end Go.Proofs.YthddlkhfkncgpaaGreat
