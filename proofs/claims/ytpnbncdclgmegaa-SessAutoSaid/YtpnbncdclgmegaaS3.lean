/-
  Sessions: met, Read, Write, Hear, Close.
-/
import Derived.Test.YtpnbncdclgmegaaS2
set_option maxRecDepth 100000
set_option maxHeartbeats 1000000
set_option linter.unusedVariables false
set_option linter.unusedSimpArgs false
namespace Go.Proofs.Ytpnbncdclgmegaa
open Go.RowKit

def metR (x : Ss) (c e : Int) : Ss := if e = 4 then turnR x c 2 4 0 else x
theorem met_ok {x : Ss} {c e : Int} : FnOk Try.prog 61 [vC (.ptr 0 0), vI .i64 c, vI .i64 e] (ssO x) (vI .i64 e) (ssO (metR x c e)) := by
  unfold metR
  by_cases h : e = 4
  · subst h
    rw [if_pos rfl]
    have ht := turn_ok (x := x) (c := c) (st := 2) (re := 4) (q := 0)
    refine FnOk.tree t61 (.a (.b 8 true) (.o [0, 1, 2, 3, 4, 5, 6, 7] [] ht (.a (.call [0, 1, 2, 3, 4, 5, 6, 7] [] .u []) .nil))) rfl rfl rfl rfl ?_
    repeat' apply And.intro
    all_goals first | trivial | rfl | exact .refl _ | exact leP_refl _ | (simp [leVs, leP, leE, leL, leC]; done)
  · rw [if_neg h]
    refine FnOk.tree t61 (.a (.b 8 false) (.a (.call [0, 1, 2, 3, 4, 5, 6, 7] [] .u []) .nil)) rfl rfl rfl rfl ?_
    repeat' apply And.intro
    all_goals first | trivial | rfl | exact .refl _ | exact leP_refl _ | (simp [leVs, leP, leE, leL, leC]; done) | simpa using h
/-- What stands in the map of sessions at a number: the answer to a lookup. -/
theorem ses_at (A : Ao) (c : Int) : (∃ v, A.get c = some v ∧ A.mp.get c = some (sds v) ∧ stG A c = v) ∨ (A.get c = none ∧ A.mp.get c = none ∧ stG A c = ⟨0, 0, 0, 0⟩) := by
  have hg := A.get_eq c
  unfold stG
  cases h : A.get c with
  | some v => rw [h] at hg; exact .inl ⟨v, rfl, hg, rfl⟩
  | none => rw [h] at hg; exact .inr ⟨rfl, hg, rfl⟩
def sreadR (x : Ss) (c : Int) (sp : Spn) : List Int × Int × Ss :=
  if spnR sp = false then ([], 1, x) else if (stG x.A c).st = 1 then ((readR x.e x.s x.M c sp).1, (readR x.e x.s x.M c sp).2.1, metR { x with M := (readR x.e x.s x.M c sp).2.2 } c (readR x.e x.s x.M c sp).2.1) else
    if (stG x.A c).st = 2 then ([], 5, x) else (lookL x.s.L [] x.s.last sp, 0, x)
theorem ssRead_ok {x : Ss} {c : Int} {sp : Spn} (hx : SsGo x c) : FnOk Try.prog 33 [vC (.ptr 0 0), vI .i64 c, vS3 sp] (ssO x) (vWE (sreadR x c sp).1 (sreadR x c sp).2.1) (ssO (sreadR x c sp).2.2) := by
  have hsr := sRight_ok (s := sp)
  unfold sreadR
  cases hb : spnR sp with
  | false =>
    rw [hb] at hsr
    rw [if_pos rfl]
    refine FnOk.tree t33 (.f [] hsr (.a (.call [0, 1, 2, 3, 4, 5, 6, 7] [] .u []) .nil)) rfl rfl rfl rfl ?_
    repeat' apply And.intro
    all_goals first | trivial | rfl | exact .refl _ | exact leP_refl _ | (simp [leVs, leP, leE, leEs, leL, leC, rI]; done)
  | true =>
    rw [hb] at hsr
    rw [if_neg (by simp)]
    have hspb : SpB sp := by simp [spnR] at hb; omega
    have open1 : (stG x.A c).st = 1 → FnOk Try.prog 33 [vC (.ptr 0 0), vI .i64 c, vS3 sp] (ssO x) (vWE (readR x.e x.s x.M c sp).1 (readR x.e x.s x.M c sp).2.1) (ssO (metR { x with M := (readR x.e x.s x.M c sp).2.2 } c (readR x.e x.s x.M c sp).2.1)) := by
      intro hst
      have hr := eRead_ok (e := x.e) (s := x.s) (M := x.M) (k := c) (sp := sp) hx.s.ok hx.v
      generalize readR x.e x.s x.M c sp = r at *
      obtain ⟨ws, err, M'⟩ := r
      have hm := met_ok (x := { x with M := M' }) (c := c) (e := err)
      rcases ses_at x.A c with ⟨v, _, hg, hv⟩ | ⟨_, hg, hv⟩
      · obtain ⟨a, b, l, d⟩ := v
        rw [hv] at hst
        simp only at hst
        subst hst
        refine FnOk.tree t33 (.f [] hsr (.a (.mp (some [.int .i64 1, .int .i64 b, .int .i64 l, .int .u64 d])) (.a (.b 22 true) (.o [1, 2, 3, 4] [] hr (.o [0, 1, 2, 3, 4, 5, 6, 7] [] hm (.a (.call [0, 1, 2, 3, 4, 5, 6, 7] [] .u []) .nil)))))) rfl rfl rfl rfl ?_
        repeat' apply And.intro
        all_goals first | trivial | rfl | exact .refl _ | exact leP_refl _ | (simp [leVs, leP, leE, leEs, leL, leC, rI]; done)
      · rw [hv] at hst; simp at hst
    by_cases h1 : (stG x.A c).st = 1
    · rw [if_pos h1]
      exact open1 h1
    rw [if_neg h1]
    by_cases h2 : (stG x.A c).st = 2
    · rw [if_pos h2]
      rcases ses_at x.A c with ⟨v, _, hg, hv⟩ | ⟨_, hg, hv⟩
      · obtain ⟨a, b, l, d⟩ := v
        rw [hv] at h2
        simp only at h2
        subst h2
        refine FnOk.tree t33 (.f [] hsr (.a (.mp (some [.int .i64 2, .int .i64 b, .int .i64 l, .int .u64 d])) (.a (.b 22 false) (.a (.b 39 true) (.a (.call [0, 1, 2, 3, 4, 5, 6, 7] [] .u []) .nil))))) rfl rfl rfl rfl ?_
        repeat' apply And.intro
        all_goals first | trivial | rfl | exact .refl _ | exact leP_refl _ | (simp [leVs, leP, leE, leEs, leL, leC, rI]; done)
      · rw [hv] at h2; simp at h2
    rw [if_neg h2]
    have hS := eStore_ok (e := x.e) (s := x.s) (M := x.M)
    have hL := sLast_ok (s := x.s)
    have hk := look_ok hx.s.ok (q := x.s.last) (R := []) (W := []) (by simp) (sp := sp) hspb.1 hspb.2
    rcases ses_at x.A c with ⟨v, _, hg, hv⟩ | ⟨_, hg, hv⟩
    · obtain ⟨a, b, l, d⟩ := v
      rw [hv] at h1 h2
      simp only at h1 h2
      refine FnOk.tree t33 (.f [] hsr (.a (.mp (some [.int .i64 a, .int .i64 b, .int .i64 l, .int .u64 d])) (.a (.b 22 false) (.a (.b 39 false) (.o [1, 2, 3, 4] [] hS (.o [2, 3] [] hL (.o [2, 3] [] hk (.a (.call [0, 1, 2, 3, 4, 5, 6, 7] [] .u []) .nil)))))))) rfl rfl rfl rfl ?_
      repeat' apply And.intro
      all_goals first | trivial | rfl | exact .refl _ | exact leP_refl _ | (simp [leVs, leP, leE, leEs, leL, leC, rI, rwS, rwC]; done) | simpa using h1 | simpa using h2
    · refine FnOk.tree t33 (.f [] hsr (.a (.mp none) (.a (.b 22 false) (.a (.b 39 false) (.o [1, 2, 3, 4] [] hS (.o [2, 3] [] hL (.o [2, 3] [] hk (.a (.call [0, 1, 2, 3, 4, 5, 6, 7] [] .u []) .nil)))))))) rfl rfl rfl rfl ?_
      repeat' apply And.intro
      all_goals first | trivial | rfl | exact .refl _ | exact leP_refl _ | (simp [leVs, leP, leE, leEs, leL, leC, rI, rwS, rwC]; done)
def swriteR (x : Ss) (c : Int) (l : List Cel) : Int × Ss :=
  if (stG x.A c).st = 1 then ((writeR x.e x.M c l).1, metR { x with M := (writeR x.e x.M c l).2 } c (writeR x.e x.M c l).1) else
    if (stG x.A c).st = 2 then (5, x) else ((instR x.s l).2.1, { x with s := (instR x.s l).2.2 })
theorem ssWrite_ok {x : Ss} {c : Int} {l : List Cel} (hl : l.length ≤ 1000000) (hx : SsGo x c) : FnOk Try.prog 34 [vC (.ptr 0 0), vI .i64 c, vCl l] (ssO x) (vI .i64 (swriteR x c l).1) (ssO (swriteR x c l).2) := by
  unfold swriteR
  by_cases h1 : (stG x.A c).st = 1
  · rw [if_pos h1]
    have hr := eWrite_ok (e := x.e) (s := x.s) (M := x.M) (k := c) hl hx.v
    generalize writeR x.e x.M c l = r at *
    obtain ⟨err, M'⟩ := r
    have hm := met_ok (x := { x with M := M' }) (c := c) (e := err)
    rcases ses_at x.A c with ⟨v, _, hg, hv⟩ | ⟨_, hg, hv⟩
    · obtain ⟨a, b, l', d⟩ := v
      rw [hv] at h1
      simp only at h1
      subst h1
      refine FnOk.tree t34 (.a (.mp (some [.int .i64 1, .int .i64 b, .int .i64 l', .int .u64 d])) (.a (.b 17 true) (.o [1, 2, 3, 4] [] hr (.o [0, 1, 2, 3, 4, 5, 6, 7] [] hm (.a (.call [0, 1, 2, 3, 4, 5, 6, 7] [] .u []) .nil))))) rfl rfl rfl rfl ?_
      repeat' apply And.intro
      all_goals first | trivial | rfl | exact .refl _ | exact leP_refl _ | (simp [leVs, leP, leE, leEs, leL, leC, rI]; done)
    · rw [hv] at h1; simp at h1
  rw [if_neg h1]
  by_cases h2 : (stG x.A c).st = 2
  · rw [if_pos h2]
    rcases ses_at x.A c with ⟨v, _, hg, hv⟩ | ⟨_, hg, hv⟩
    · obtain ⟨a, b, l', d⟩ := v
      rw [hv] at h2
      simp only at h2
      subst h2
      refine FnOk.tree t34 (.a (.mp (some [.int .i64 2, .int .i64 b, .int .i64 l', .int .u64 d])) (.a (.b 17 false) (.a (.b 29 true) (.a (.call [0, 1, 2, 3, 4, 5, 6, 7] [] .u []) .nil)))) rfl rfl rfl rfl ?_
      repeat' apply And.intro
      all_goals first | trivial | rfl | exact .refl _ | exact leP_refl _ | (simp [leVs, leP, leE, leEs, leL, leC, rI]; done)
    · rw [hv] at h2; simp at h2
  rw [if_neg h2]
  have hS := eStore_ok (e := x.e) (s := x.s) (M := x.M)
  have hi := inst_ok hx.s.len hx.s.ch hx.s.last hx.s.n hx.s.most (l := l) (by omega)
  generalize instR x.s l = r at *
  obtain ⟨q, err, s'⟩ := r
  rcases ses_at x.A c with ⟨v, _, hg, hv⟩ | ⟨_, hg, hv⟩
  · obtain ⟨a, b, l', d⟩ := v
    rw [hv] at h1 h2
    simp only at h1 h2
    refine FnOk.tree t34 (.a (.mp (some [.int .i64 a, .int .i64 b, .int .i64 l', .int .u64 d])) (.a (.b 17 false) (.a (.b 29 false) (.o [1, 2, 3, 4] [] hS (.o [2, 3] [] hi (.a (.call [0, 1, 2, 3, 4, 5, 6, 7] [] .u []) .nil)))))) rfl rfl rfl rfl ?_
    repeat' apply And.intro
    all_goals first | trivial | rfl | exact .refl _ | exact leP_refl _ | (simp [leVs, leP, leE, leEs, leL, leC, rI, rwS, rwC]; done) | simpa using h1 | simpa using h2
  · refine FnOk.tree t34 (.a (.mp none) (.a (.b 17 false) (.a (.b 29 false) (.o [1, 2, 3, 4] [] hS (.o [2, 3] [] hi (.a (.call [0, 1, 2, 3, 4, 5, 6, 7] [] .u []) .nil)))))) rfl rfl rfl rfl ?_
    repeat' apply And.intro
    all_goals first | trivial | rfl | exact .refl _ | exact leP_refl _ | (simp [leVs, leP, leE, leEs, leL, leC, rI, rwS, rwC]; done)
def hearR (x : Ss) (c : Int) : Ss := if ((stG x.A c).st == 1) = true then { x with b := x.b.set c x.t } else x
theorem ssHear_ok {x : Ss} {c : Int} : FnOk Try.prog 43 [vC (.ptr 0 0), vI .i64 c] (ssO x) (.tup []) (ssO (hearR x c)) := by
  have ho := open_ok (x := x) (c := c)
  unfold hearR
  cases hb : ((stG x.A c).st == 1) with
  | false =>
    rw [hb] at ho
    rw [if_neg (by simp)]
    refine FnOk.tree t43 (.o [0, 1, 2, 3, 4, 5, 6, 7] [] ho (.a (.call [0, 1, 2, 3, 4, 5, 6, 7] [] .u []) .nil)) rfl rfl rfl rfl ?_
    repeat' apply And.intro
    all_goals first | trivial | rfl | exact .refl _ | exact leP_refl _ | (simp [leVs, leP, leE, leEs, leL, leC, rI]; done)
  | true =>
    rw [hb] at ho
    rw [if_pos rfl]
    have hh := hear_ok (t := x.t) (k := c) (b := x.b)
    refine FnOk.tree t43 (.o [0, 1, 2, 3, 4, 5, 6, 7] [] ho (.o [5, 6] [] hh (.a (.call [0, 1, 2, 3, 4, 5, 6, 7] [] .u []) .nil))) rfl rfl rfl rfl ?_
    repeat' apply And.intro
    all_goals first | trivial | rfl | exact .refl _ | exact leP_refl _ | (simp [leVs, leP, leE, leEs, leL, leC, rI]; done)
def otherB (v : Ses) : Bool := !(v.st == 0 && (v.re == 0 && (v.le == 0 && (v.q == 0 && true))))
def closeR (x : Ss) (c : Int) : Bool × Ss := (otherB (stG x.A c), { x with M := if ((stG x.A c).st == 1) = true then x.M.del c else x.M, b := x.b.del c, A := x.A.del c })
theorem ssO_del (x : Ss) (c : Int) (M : Mo) (b : Bk) : ssO { x with M := M, b := b, A := x.A.del c } = [.box [.ptr 1 0, .t (.int .i64 x.t), .ptr 5 0, .mp 7], .box [.ptr 2 0, .t (.int .i64 x.e.most), .t (.int .i64 x.e.spans), .t (.int .i64 x.e.writes), .mp 4], stB x.s 3, stM x.s, eM M, .box [.t (.int .i64 x.t), .mp 6], bkM b, .mp true (x.A.mp.del c)] := by
  show [_, _, _, _, _, _, _, Ob.mp true (x.A.del c).mp] = _
  rw [Ao.del_eq]
theorem ssClose_ok {x : Ss} {c : Int} : FnOk Try.prog 45 [vC (.ptr 0 0), vI .i64 c] (ssO x) (vB (closeR x c).1) (ssO (closeR x c).2) := by
  have ho := open_ok (x := x) (c := c)
  have ha := abort_ok (e := x.e) (s := x.s) (M := x.M) (k := c)
  have hd := drop_ok (t := x.t) (k := c) (b := x.b)
  unfold closeR
  rw [ssO_del]
  rcases ses_at x.A c with ⟨v, _, hg, hv⟩ | ⟨_, hg, hv⟩
  · obtain ⟨a, b, l, d⟩ := v
    rw [hv] at ho ⊢
    cases hb : (a == 1) with
    | true =>
      simp only [hb] at ho ⊢
      refine FnOk.tree t45 (.a (.mp (some [.int .i64 a, .int .i64 b, .int .i64 l, .int .u64 d])) (.o [0, 1, 2, 3, 4, 5, 6, 7] [] ho (.o [1, 2, 3, 4] [] ha (.o [5, 6] [] hd (.a (.call [0, 1, 2, 3, 4, 5, 6, 7] [] .u []) .nil))))) rfl rfl rfl rfl ?_
      repeat' apply And.intro
      all_goals first | trivial | rfl | exact .refl _ | exact leP_refl _ | (simp [leVs, leP, leE, leEs, leL, leC, rI]; done)
    | false =>
      simp only [hb] at ho ⊢
      refine FnOk.tree t45 (.a (.mp (some [.int .i64 a, .int .i64 b, .int .i64 l, .int .u64 d])) (.o [0, 1, 2, 3, 4, 5, 6, 7] [] ho (.o [5, 6] [] hd (.a (.call [0, 1, 2, 3, 4, 5, 6, 7] [] .u []) .nil)))) rfl rfl rfl rfl ?_
      repeat' apply And.intro
      all_goals first | trivial | rfl | exact .refl _ | exact leP_refl _ | (simp [leVs, leP, leE, leEs, leL, leC, rI]; done)
  · rw [hv] at ho ⊢
    refine FnOk.tree t45 (.a (.mp none) (.o [0, 1, 2, 3, 4, 5, 6, 7] [] ho (.o [5, 6] [] hd (.a (.call [0, 1, 2, 3, 4, 5, 6, 7] [] .u []) .nil)))) rfl rfl rfl rfl ?_
    repeat' apply And.intro
    all_goals first | trivial | rfl | exact .refl _ | exact leP_refl _ | (simp [leVs, leP, leE, leEs, leL, leC, rI]; done)
end Go.Proofs.Ytpnbncdclgmegaa
