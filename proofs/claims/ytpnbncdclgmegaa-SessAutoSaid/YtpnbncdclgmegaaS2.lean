/-
  Sessions: New, Engine, State, open, turn, Begin, Commit, Abort.
-/
import Derived.Test.YtpnbncdclgmegaaS1
import Derived.Test.YtpnbncdclgmegaaL3
set_option maxRecDepth 100000
set_option maxHeartbeats 1000000
set_option linter.unusedVariables false
set_option linter.unusedSimpArgs false
namespace Go.Proofs.Ytpnbncdclgmegaa
open Go.RowKit

abbrev aM (A : Ao) : Ob := .mp true A.mp
def stG (A : Ao) (c : Int) : Ses := (A.get c).getD ⟨0, 0, 0, 0⟩
/-- The sessions: ticks, engine, book, how they stand. -/
structure Ss where
  t : Int
  e : En
  s : St
  M : Mo
  b : Bk
  A : Ao
abbrev ssO (x : Ss) : List Ob := [.box [.ptr 1 0, .t (.int .i64 x.t), .ptr 5 0, .mp 7], .box [.ptr 2 0, .t (.int .i64 x.e.most), .t (.int .i64 x.e.spans), .t (.int .i64 x.e.writes), .mp 4], stB x.s 3, stM x.s, eM x.M, .box [.t (.int .i64 x.t), .mp 6], bkM x.b, aM x.A]
theorem ssNew_ok {e : En} {s : St} {M : Mo} {t : Int} : FnOk Try.prog 59 [vC (.ptr 0 0), vI .i64 t] (eO e s M) (vC (.ptr 4 0)) (eO e s M ++ [.box [.ptr 0 0, .t (.int .i64 (capT t)), .ptr 5 0, .mp 7], .box [.t (.int .i64 (capT t)), .mp 6], .mp false ⟨0, []⟩, .mp true ⟨0, []⟩]) := by
  have hc := capT_rng t
  have hn := lNew_ok (t := capT t)
  have e1 : capT (capT t) = capT t := by unfold capT at hc ⊢; split <;> split <;> omega
  rw [e1] at hn
  have e2 : (if 65535 < (if t < 1 then 1 else t) then 65535 else if t < 1 then 1 else t) = capT t := rfl
  refine FnOk.tree t59 (.o [] [] hn (.a (.call [0, 1, 2, 3, 7, 4, 5, 6] [] .u []) .nil)) rfl rfl rfl rfl ?_
  repeat' apply And.intro
  all_goals first | trivial | rfl | exact .refl _ | exact leP_refl _ | (simp [leVs, leP, leE, leL, leC]; done) | simpa using h | simpa using he
theorem sEngine_ok {x : Ss} : FnOk Try.prog 36 [vC (.ptr 0 0)] (ssO x) (vC (.ptr 1 0)) (ssO x) := by
  refine FnOk.tree t36 (.a (.call [0, 1, 2, 3, 4, 5, 6, 7] [] .u []) .nil) rfl rfl rfl rfl ?_
  repeat' apply And.intro
  all_goals first | trivial | rfl | exact .refl _ | exact leP_refl _ | (simp [leVs, leP, leE, leL, leC]; done) | simpa using h | simpa using he
abbrev vSt (a b c d : Int) : V := .e (.agg [.t (.int .i64 a), .t (.int .i64 b), .t (.int .i64 c), .t (.int .u64 d)])
theorem state_ok {x : Ss} {c : Int} : FnOk Try.prog 38 [vC (.ptr 0 0), vI .i64 c] (ssO x) (vSt (stG x.A c).st (stG x.A c).re x.t (stG x.A c).q) (ssO x) := by
  have hg := x.A.get_eq c
  unfold stG
  cases h : x.A.get c with
  | some v =>
    obtain ⟨a, b, l, d⟩ := v
    rw [h] at hg
    refine FnOk.tree t38 (.a (.mp (some [.int .i64 a, .int .i64 b, .int .i64 l, .int .u64 d])) (.a (.call [0, 1, 2, 3, 4, 5, 6, 7] [] .u []) .nil)) rfl rfl rfl rfl ?_
    repeat' apply And.intro
    all_goals first | trivial | rfl | exact .refl _ | exact leP_refl _ | (simp [leVs, leP, leE, leL, leC]; done) | simpa using h | simpa using he
  | none =>
    rw [h] at hg
    refine FnOk.tree t38 (.a (.mp none) (.a (.call [0, 1, 2, 3, 4, 5, 6, 7] [] .u []) .nil)) rfl rfl rfl rfl ?_
    repeat' apply And.intro
    all_goals first | trivial | rfl | exact .refl _ | exact leP_refl _ | (simp [leVs, leP, leE, leL, leC]; done) | simpa using h | simpa using he
theorem open_ok {x : Ss} {c : Int} : FnOk Try.prog 63 [vC (.ptr 0 0), vI .i64 c] (ssO x) (vB ((stG x.A c).st == 1)) (ssO x) := by
  have hg := x.A.get_eq c
  unfold stG
  cases h : x.A.get c with
  | some v =>
    obtain ⟨a, b, l, d⟩ := v
    rw [h] at hg
    refine FnOk.tree t63 (.a (.mp (some [.int .i64 a, .int .i64 b, .int .i64 l, .int .u64 d])) (.a (.call [0, 1, 2, 3, 4, 5, 6, 7] [] .u []) .nil)) rfl rfl rfl rfl ?_
    repeat' apply And.intro
    all_goals first | trivial | rfl | exact .refl _ | exact leP_refl _ | (simp [leVs, leP, leE, leL, leC]; done) | simpa using h | simpa using he
  | none =>
    rw [h] at hg
    refine FnOk.tree t63 (.a (.mp none) (.a (.call [0, 1, 2, 3, 4, 5, 6, 7] [] .u []) .nil)) rfl rfl rfl rfl ?_
    repeat' apply And.intro
    all_goals first | trivial | rfl | exact .refl _ | exact leP_refl _ | (simp [leVs, leP, leE, leL, leC]; done) | simpa using h | simpa using he
def turnR (x : Ss) (c st re q : Int) : Ss := { x with A := x.A.set c ⟨st, re, 0, q⟩, b := if st = 1 then x.b else x.b.del c }
theorem ssO_set (x : Ss) (c : Int) (v : Ses) (b : Bk) : ssO { x with A := x.A.set c v, b := b } = [.box [.ptr 1 0, .t (.int .i64 x.t), .ptr 5 0, .mp 7], .box [.ptr 2 0, .t (.int .i64 x.e.most), .t (.int .i64 x.e.spans), .t (.int .i64 x.e.writes), .mp 4], stB x.s 3, stM x.s, eM x.M, .box [.t (.int .i64 x.t), .mp 6], bkM b, .mp true (x.A.mp.set c (sds v))] := by
  show [_, _, _, _, _, _, _, Ob.mp true (x.A.set c v).mp] = _
  rw [Ao.set_eq]
theorem turn_ok {x : Ss} {c st re q : Int} : FnOk Try.prog 64 [vC (.ptr 0 0), vI .i64 c, vI .i64 st, vI .i64 re, vI .u64 q] (ssO x) (.tup []) (ssO (turnR x c st re q)) := by
  unfold turnR
  by_cases h : st = 1
  · subst h
    rw [if_pos rfl, ssO_set]
    refine FnOk.tree t64 (.a (.b 21 false) (.a (.call [0, 1, 2, 3, 4, 5, 6, 7] [] .u []) .nil)) rfl rfl rfl rfl ?_
    repeat' apply And.intro
    all_goals first | trivial | rfl | exact .refl _ | exact leP_refl _ | (simp [leVs, leP, leE, leL, leC]; done) | simpa using h | simpa using he
  · rw [if_neg h, ssO_set]
    have hd := drop_ok (t := x.t) (k := c) (b := x.b)
    refine FnOk.tree t64 (.a (.b 21 true) (.o [5, 6] [] hd (.a (.call [0, 1, 2, 3, 4, 5, 6, 7] [] .u []) .nil))) rfl rfl rfl rfl ?_
    repeat' apply And.intro
    all_goals first | trivial | rfl | exact .refl _ | exact leP_refl _ | (simp [leVs, leP, leE, leL, leC]; done) | simpa using h | simpa using he
def beginR (x : Ss) (c : Int) : Int × Ss :=
  if ((stG x.A c).st == 1) = true then (6, x) else if (begR x.e x.s x.M c).1 ≠ 0 then ((begR x.e x.s x.M c).1, { x with M := (begR x.e x.s x.M c).2 }) else
    (0, { x with M := (begR x.e x.s x.M c).2, A := x.A.set c ⟨1, 0, 0, x.s.last⟩, b := x.b.set c x.t })
theorem ssBegin_ok {x : Ss} {c : Int} : FnOk Try.prog 39 [vC (.ptr 0 0), vI .i64 c] (ssO x) (vI .i64 (beginR x c).1) (ssO (beginR x c).2) := by
  have ho := open_ok (x := x) (c := c)
  unfold beginR
  cases hb : ((stG x.A c).st == 1) with
  | true =>
    rw [hb] at ho
    rw [if_pos rfl]
    refine FnOk.tree t39 (.o [0, 1, 2, 3, 4, 5, 6, 7] [] ho (.a (.call [0, 1, 2, 3, 4, 5, 6, 7] [] .u []) .nil)) rfl rfl rfl rfl ?_
    repeat' apply And.intro
    all_goals first | trivial | rfl | exact .refl _ | exact leP_refl _ | (simp [leVs, leP, leE, leL, leC]; done) | simpa using h | simpa using he
  | false =>
    rw [hb] at ho
    rw [if_neg (by simp)]
    have h1 := begin_ok (e := x.e) (s := x.s) (M := x.M) (k := c)
    generalize begR x.e x.s x.M c = r at *
    obtain ⟨err, M'⟩ := r
    simp only
    by_cases he : err = 0
    · subst he
      rw [if_neg (by simp)]
      have h2 := eStore_ok (e := x.e) (s := x.s) (M := M')
      have h3 := sLast_ok (s := x.s)
      have h4 := turn_ok (x := { x with M := M' }) (c := c) (st := 1) (re := 0) (q := x.s.last)
      have e4 : turnR { x with M := M' } c 1 0 x.s.last = { x with M := M', A := x.A.set c ⟨1, 0, 0, x.s.last⟩ } := by simp [turnR]
      rw [e4] at h4
      have h5 := hear_ok (t := x.t) (k := c) (b := x.b)
      refine FnOk.tree t39 (.o [0, 1, 2, 3, 4, 5, 6, 7] [] ho (.o [1, 2, 3, 4] [] h1 (.a (.b 16 false) (.o [1, 2, 3, 4] [] h2 (.o [2, 3] [] h3 (.o [0, 1, 2, 3, 4, 5, 6, 7] [] h4 (.o [5, 6] [] h5 (.a (.call [0, 1, 2, 3, 4, 5, 6, 7] [] .u []) .nil)))))))) rfl rfl rfl rfl ?_
      repeat' apply And.intro
      all_goals first | trivial | rfl | exact .refl _ | exact leP_refl _ | (simp [leVs, leP, leE, leL, leC]; done) | simpa using h | simpa using he
    · rw [if_pos he]
      refine FnOk.tree t39 (.o [0, 1, 2, 3, 4, 5, 6, 7] [] ho (.o [1, 2, 3, 4] [] h1 (.a (.b 16 true) (.a (.call [0, 1, 2, 3, 4, 5, 6, 7] [] .u []) .nil)))) rfl rfl rfl rfl ?_
      repeat' apply And.intro
      all_goals first | trivial | rfl | exact .refl _ | exact leP_refl _ | (simp [leVs, leP, leE, leL, leC]; done) | simpa using h | simpa using he
def whyN (e : Int) : Int := if e = 7 then 2 else if e = 4 then 4 else if e = 8 then 5 else 0
theorem why_ok {e : Int} : FnOk Try.prog 66 [vI .i64 e] [] (vI .i64 (whyN e)) [] := by
  refine FnOk.tree t66 (.br 4 .nil (.br 6 .nil (.br 8 .nil .nil))) rfl rfl rfl rfl ?_
  simp [leP, leE, leC, whyN]
  omega
structure SsGo (x : Ss) (c : Int) : Prop where
  s : StGo x.s
  v : ∀ v, x.M.get c = some v → VwOk v
def scomR (x : Ss) (c : Int) : Int × Ss :=
  if ((stG x.A c).st == 1) = false then (5, x) else
    ((comR x.s x.M c).2.1, turnR { x with s := (comR x.s x.M c).2.2.1, M := (comR x.s x.M c).2.2.2 } c 0 (whyN (comR x.s x.M c).2.1) (comR x.s x.M c).1)
theorem ssCommit_ok {x : Ss} {c : Int} (hx : SsGo x c) : FnOk Try.prog 41 [vC (.ptr 0 0), vI .i64 c] (ssO x) (vI .i64 (scomR x c).1) (ssO (scomR x c).2) := by
  have ho := open_ok (x := x) (c := c)
  unfold scomR
  cases hb : ((stG x.A c).st == 1) with
  | false =>
    rw [hb] at ho
    rw [if_pos rfl]
    refine FnOk.tree t41 (.o [0, 1, 2, 3, 4, 5, 6, 7] [] ho (.a (.call [0, 1, 2, 3, 4, 5, 6, 7] [] .u []) .nil)) rfl rfl rfl rfl ?_
    repeat' apply And.intro
    all_goals first | trivial | rfl | exact .refl _ | exact leP_refl _ | (simp [leVs, leP, leE, leL, leC]; done) | simpa using h | simpa using he
  | true =>
    rw [hb] at ho
    rw [if_neg (by simp)]
    have h1 := commit_ok (e := x.e) (s := x.s) (M := x.M) (k := c) hx.s hx.v
    generalize comR x.s x.M c = r at *
    obtain ⟨q, err, s', M'⟩ := r
    simp only
    have h2 := why_ok (e := err)
    have h3 := turn_ok (x := { x with s := s', M := M' }) (c := c) (st := 0) (re := whyN err) (q := q)
    refine FnOk.tree t41 (.o [0, 1, 2, 3, 4, 5, 6, 7] [] ho (.o [1, 2, 3, 4] [] h1 (.f [] h2 (.o [0, 1, 2, 3, 4, 5, 6, 7] [] h3 (.a (.call [0, 1, 2, 3, 4, 5, 6, 7] [] .u []) .nil))))) rfl rfl rfl rfl ?_
    repeat' apply And.intro
    all_goals first | trivial | rfl | exact .refl _ | exact leP_refl _ | (simp [leVs, leP, leE, leL, leC]; done) | simpa using h | simpa using he
def sabR (x : Ss) (c : Int) : Int × Ss := if ((stG x.A c).st == 1) = false then (5, x) else (0, turnR { x with M := x.M.del c } c 0 1 0)
theorem ssAbort_ok {x : Ss} {c : Int} : FnOk Try.prog 42 [vC (.ptr 0 0), vI .i64 c] (ssO x) (vI .i64 (sabR x c).1) (ssO (sabR x c).2) := by
  have ho := open_ok (x := x) (c := c)
  unfold sabR
  cases hb : ((stG x.A c).st == 1) with
  | false =>
    rw [hb] at ho
    rw [if_pos rfl]
    refine FnOk.tree t42 (.o [0, 1, 2, 3, 4, 5, 6, 7] [] ho (.a (.call [0, 1, 2, 3, 4, 5, 6, 7] [] .u []) .nil)) rfl rfl rfl rfl ?_
    repeat' apply And.intro
    all_goals first | trivial | rfl | exact .refl _ | exact leP_refl _ | (simp [leVs, leP, leE, leL, leC]; done) | simpa using h | simpa using he
  | true =>
    rw [hb] at ho
    rw [if_neg (by simp)]
    have h1 := abort_ok (e := x.e) (s := x.s) (M := x.M) (k := c)
    have h3 := turn_ok (x := { x with M := x.M.del c }) (c := c) (st := 0) (re := 1) (q := 0)
    refine FnOk.tree t42 (.o [0, 1, 2, 3, 4, 5, 6, 7] [] ho (.o [1, 2, 3, 4] [] h1 (.o [0, 1, 2, 3, 4, 5, 6, 7] [] h3 (.a (.call [0, 1, 2, 3, 4, 5, 6, 7] [] .u []) .nil)))) rfl rfl rfl rfl ?_
    repeat' apply And.intro
    all_goals first | trivial | rfl | exact .refl _ | exact leP_refl _ | (simp [leVs, leP, leE, leL, leC]; done) | simpa using h | simpa using he
end Go.Proofs.Ytpnbncdclgmegaa
