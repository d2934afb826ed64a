/-
  Sessions: how they stand; maps of them.
  Sessions: New, Engine, State, open, turn, Begin, Commit, Abort.
  Sessions: met, Read, Write, Hear, Close.
  Sessions: Tick.
-/
import Derived.Test.YthddlkhfkncgpaaGreatT14
import Derived.Test.YthddlkhfkncgpaaGreatL3
set_option maxRecDepth 100000
set_option maxHeartbeats 1000000
set_option linter.unusedVariables false
set_option linter.unusedSimpArgs false
namespace Go.Proofs.YthddlkhfkncgpaaGreat
open Go.RowKit

/-- How a session stands. -/
structure Ses where
  st : Int
  re : Int
  le : Int
  q : Int
def sds (v : Ses) : List D := [.int .i64 v.st, .int .i64 v.re, .int .i64 v.le, .int .u64 v.q]
/-- The sessions that are otherwise than at first. -/
structure Ao where
  ck : Nat
  es : List (Nat × Int × Ses)
def aoE (e : Nat × Int × Ses) : Nat × Int × List D := (e.1, e.2.1, sds e.2.2)
def Ao.mp (b : Ao) : Mp := ⟨b.ck, b.es.map aoE⟩
def Ao.at (b : Ao) (k : Int) : Nat := b.es.findIdx fun e => e.2.1 == k
def Ao.get (b : Ao) (k : Int) : Option Ses := (b.es[b.at k]?).map (·.2.2)
def Ao.set (b : Ao) (k : Int) (v : Ses) : Ao := if b.at k < b.es.length then ⟨b.ck, b.es.modify (b.at k) fun e => (e.1, e.2.1, v)⟩ else ⟨b.ck + 1, b.es ++ [(b.ck, k, v)]⟩
def Ao.del (b : Ao) (k : Int) : Ao := ⟨b.ck, b.es.eraseIdx (b.at k)⟩
theorem Ao.at_eq (b : Ao) (k : Int) : b.mp.at k = b.at k := by
  unfold Mp.at Ao.at Ao.mp
  rw [List.findIdx_map]
  rfl
theorem Ao.get_eq (b : Ao) (k : Int) : b.mp.get k = (b.get k).map sds := by
  unfold Mp.get Ao.get
  rw [Ao.at_eq]
  simp [Ao.mp, aoE]
  cases b.es[b.at k]? <;> rfl
theorem Ao.set_eq (b : Ao) (k : Int) (v : Ses) : b.mp.set k (sds v) = (b.set k v).mp := by
  unfold Mp.set Ao.set
  rw [Ao.at_eq]
  have : b.mp.es.length = b.es.length := by simp [Ao.mp]
  rw [this]
  split
  · simp only [Ao.mp, Mp.mk.injEq, true_and]
    apply List.ext_getElem?
    intro i
    simp [List.getElem?_modify]
    cases b.es[i]? with
    | none => rfl
    | some e => by_cases h : b.at k = i <;> simp [h, aoE]
  · simp [Ao.mp, aoE]
theorem Ao.del_eq (b : Ao) (k : Int) : b.mp.del k = (b.del k).mp := by
  unfold Mp.del Ao.del
  rw [Ao.at_eq]
  simp only [Ao.mp, Mp.mk.injEq, true_and]
  apply List.ext_getElem?
  intro i
  simp [List.getElem?_eraseIdx]
  split <;> rfl
theorem Ao.len (b : Ao) : b.mp.es.length = b.es.length := by simp [Ao.mp]
theorem Ao.at_lt {M : Ao} {k : Int} {v : Ses} (h : M.get k = some v) : ∃ hlt : M.at k < M.es.length, M.es[M.at k].2.1 = k ∧ M.es[M.at k].2.2 = v := by
  unfold Ao.get at h
  obtain ⟨e, h1, h2⟩ := Option.map_eq_some_iff.1 h
  obtain ⟨hlt, he⟩ := List.getElem?_eq_some_iff.1 h1
  refine ⟨hlt, ?_, by rw [he]; exact h2⟩
  have : (M.es[M.at k].2.1 == k) = true := List.findIdx_getElem (w := hlt)
  simpa using this
theorem Ao.set_self {M : Ao} {k : Int} {v : Ses} (h : M.get k = some v) : M.set k v = M := by
  obtain ⟨hlt, h1, h2⟩ := Ao.at_lt h
  unfold Ao.set
  rw [if_pos hlt]
  show Ao.mk _ _ = Ao.mk M.ck M.es
  congr 1
  apply List.ext_getElem?
  intro i
  rw [List.getElem?_modify]
  by_cases hi : M.at k = i
  · subst hi
    simp [hlt, ← h2]
  · simp [hi]
theorem Ao.at_set {M : Ao} {k : Int} {u v : Ses} (h : M.get k = some u) : (M.set k v).at k = M.at k := by
  obtain ⟨hlt, h1, h2⟩ := Ao.at_lt h
  unfold Ao.set
  rw [if_pos hlt]
  unfold Ao.at
  have : ∀ (l : List (Nat × Int × Ses)) (j : Nat), List.findIdx (fun e => e.2.1 == k) (l.modify j fun e => (e.1, e.2.1, v)) = List.findIdx (fun e => e.2.1 == k) l := by
    intro l
    induction l with
    | nil => intro j; simp
    | cons e l ih =>
      intro j
      cases j with
      | zero => simp [List.findIdx_cons]
      | succ j => simp [List.findIdx_cons, ih j]
  exact this _ _
theorem Ao.get_set {M : Ao} {k : Int} {u v : Ses} (h : M.get k = some u) : (M.set k v).get k = some v := by
  have ha := Ao.at_set (v := v) h
  obtain ⟨hlt, h1, h2⟩ := Ao.at_lt h
  unfold Ao.get
  rw [ha]
  unfold Ao.set
  rw [if_pos hlt]
  simp [List.getElem?_modify, hlt]
theorem Ao.set_set {M : Ao} {k : Int} {u v x : Ses} (h : M.get k = some u) : (M.set k v).set k x = M.set k x := by
  have ha := Ao.at_set (v := v) h
  obtain ⟨hlt, h1, h2⟩ := Ao.at_lt h
  have hl : (M.set k v).es.length = M.es.length := by unfold Ao.set; rw [if_pos hlt]; simp
  have e1 : (M.set k v).set k x = ⟨(M.set k v).ck, (M.set k v).es.modify (M.at k) fun e => (e.1, e.2.1, x)⟩ := by
    rw [← ha]
    unfold Ao.set
    exact if_pos (by have : (M.set k v).at k < (M.set k v).es.length := by rw [ha, hl]; exact hlt
                     exact this)
  rw [e1]
  unfold Ao.set
  rw [if_pos hlt, if_pos hlt]
  simp only [Ao.mk.injEq, true_and]
  apply List.ext_getElem?
  intro i
  simp only [List.getElem?_modify]
  by_cases hi : M.at k = i
  · subst hi
    simp [hlt]
  · simp [hi]
theorem Ao.get_set_ne {M : Ao} {k j : Int} {v : Ses} (h : j ≠ k) : (M.set k v).get j = M.get j := by
  have hidx : ∀ (l : List (Nat × Int × Ses)) (i : Nat), List.findIdx (fun e => e.2.1 == j) (l.modify i fun e => (e.1, e.2.1, v)) = List.findIdx (fun e => e.2.1 == j) l := by
    intro l
    induction l with
    | nil => intro i; simp
    | cons e l ih =>
      intro i
      cases i with
      | zero => simp [List.findIdx_cons]
      | succ i => simp [List.findIdx_cons, ih i]
  unfold Ao.set
  split
  · rename_i hlt
    unfold Ao.get
    have ha : (⟨M.ck, M.es.modify (M.at k) fun e => (e.1, e.2.1, v)⟩ : Ao).at j = M.at j := hidx _ _
    rw [ha, List.getElem?_modify]
    have hne : ∀ e, M.es[M.at j]? = some e → M.at k ≠ M.at j := fun e he hkj => by
      have h1 : (M.es[M.at k].2.1 == k) = true := List.findIdx_getElem (w := hlt)
      obtain ⟨hl, he'⟩ := List.getElem?_eq_some_iff.1 he
      have h2 : (M.es[M.at j].2.1 == j) = true := List.findIdx_getElem (w := hl)
      simp only [hkj] at h1
      have h1 : M.es[M.at j].2.1 = k := by simpa using h1
      have h2 : M.es[M.at j].2.1 = j := by simpa using h2
      exact h (h2.symm.trans h1)
    cases he : M.es[M.at j]? with
    | none => simp
    | some e => simp [hne e he]
  · unfold Ao.get Ao.at
    simp only
    rw [List.findIdx_append]
    by_cases hlt : List.findIdx (fun e : Nat × Int × Ses => e.2.1 == j) M.es < M.es.length
    · rw [if_pos hlt, List.getElem?_append_left hlt]
    · rw [if_neg hlt]
      have hkj : (k == j) = false := by simpa using Ne.symm h
      have e1 : List.findIdx (fun e : Nat × Int × Ses => e.2.1 == j) [(M.ck, k, v)] = 1 := by simp [List.findIdx_cons, hkj]
      rw [e1, List.getElem?_eq_none (by simp; omega), List.getElem?_eq_none (by omega)]
theorem Ao.get_del_ne {M : Ao} {k j : Int} (h : j ≠ k) : (M.del k).get j = M.get j := by
  have key : ∀ (l : List (Nat × Int × Ses)), ((l.eraseIdx (l.findIdx fun e => e.2.1 == k))[(l.eraseIdx (l.findIdx fun e => e.2.1 == k)).findIdx fun e => e.2.1 == j]?).map (·.2.2) = (l[l.findIdx fun e => e.2.1 == j]?).map (·.2.2) := by
    intro l
    induction l with
    | nil => rfl
    | cons e l ih =>
      rw [List.findIdx_cons]
      by_cases hk : e.2.1 = k
      · have h1 : (e.2.1 == k) = true := by simpa using hk
        have h2 : (e.2.1 == j) = false := by simpa [hk] using Ne.symm h
        rw [h1, cond_true, List.eraseIdx_cons_zero, List.findIdx_cons, h2, cond_false, List.getElem?_cons_succ]
      · have h1 : (e.2.1 == k) = false := by simpa using hk
        rw [h1, cond_false, List.eraseIdx_cons_succ, List.findIdx_cons, List.findIdx_cons]
        by_cases hj : e.2.1 = j
        · have h2 : (e.2.1 == j) = true := by simpa using hj
          rw [h2]
          rfl
        · have h2 : (e.2.1 == j) = false := by simpa using hj
          rw [h2]
          simpa using ih
  exact key M.es
theorem Ao.get_set_eq {M : Ao} {k : Int} {v : Ses} : (M.set k v).get k = some v := by
  cases h : M.get k with
  | some u => exact Ao.get_set h
  | none =>
    have hnl : ¬ M.at k < M.es.length := fun hl => by unfold Ao.get at h; rw [List.getElem?_eq_getElem hl] at h; cases h
    unfold Ao.set
    rw [if_neg hnl]
    unfold Ao.get Ao.at
    simp only
    have hge : List.findIdx (fun e : Nat × Int × Ses => e.2.1 == k) M.es = M.es.length := by have := @List.findIdx_le_length _ (fun e : Nat × Int × Ses => e.2.1 == k) M.es; unfold Ao.at at hnl; omega
    rw [List.findIdx_append, hge, if_neg (by omega)]
    simp
end Go.Proofs.YthddlkhfkncgpaaGreat

set_option maxRecDepth 100000
set_option maxHeartbeats 1000000
set_option linter.unusedVariables false
set_option linter.unusedSimpArgs false
namespace Go.Proofs.YthddlkhfkncgpaaGreat
open Go.RowKit

abbrev aM (A : Ao) : Ob := .mp true A.mp
def stG (A : Ao) (c : Int) : Ses := (A.get c).getD ⟨0, 0, 0, 0⟩
/-- The sessions: ticks, engine, book, how they stand. -/
structure Ss where
  t : Int
  e : En
  s : St
  M : Mo
  b : Bk
  A : Ao
abbrev ssO (x : Ss) : List Ob := [.box [.ptr 1 0, .t (.int .i64 x.t), .ptr 5 0, .mp 7], .box [.ptr 2 0, .t (.int .i64 x.e.most), .t (.int .i64 x.e.spans), .t (.int .i64 x.e.writes), .mp 4], stB x.s 3, stM x.s, eM x.M, .box [.t (.int .i64 x.t), .mp 6], bkM x.b, aM x.A]
theorem ssNew_ok {e : En} {s : St} {M : Mo} {t : Int} : FnOk Tryz.prog 61 [vC (.ptr 0 0), vI .i64 t] (eO e s M) (vC (.ptr 4 0)) (eO e s M ++ [.box [.ptr 0 0, .t (.int .i64 (capT t)), .ptr 5 0, .mp 7], .box [.t (.int .i64 (capT t)), .mp 6], .mp false ⟨0, []⟩, .mp true ⟨0, []⟩]) := by
  have hc := capT_rng t
  have hn := lNew_ok (t := capT t)
  have e1 : capT (capT t) = capT t := by unfold capT at hc ⊢; split <;> split <;> omega
  rw [e1] at hn
  have e2 : (if 65535 < (if t < 1 then 1 else t) then 65535 else if t < 1 then 1 else t) = capT t := rfl
  refine FnOk.tree t61 (.o [] [] hn (.a (.call [0, 1, 2, 3, 7, 4, 5, 6] [] .u []) .nil)) rfl rfl rfl rfl ?_
  repeat' apply And.intro
  all_goals first | trivial | rfl | exact .refl _ | exact leP_refl _ | (simp [leVs, leP, leE, leL, leC]; done) | simpa using h | simpa using he
theorem sEngine_ok {x : Ss} : FnOk Tryz.prog 25 [vC (.ptr 0 0)] (ssO x) (vC (.ptr 1 0)) (ssO x) := by
  refine FnOk.tree t25 (.a (.call [0, 1, 2, 3, 4, 5, 6, 7] [] .u []) .nil) rfl rfl rfl rfl ?_
  repeat' apply And.intro
  all_goals first | trivial | rfl | exact .refl _ | exact leP_refl _ | (simp [leVs, leP, leE, leL, leC]; done) | simpa using h | simpa using he
abbrev vSt (a b c d : Int) : V := .e (.agg [.t (.int .i64 a), .t (.int .i64 b), .t (.int .i64 c), .t (.int .u64 d)])
theorem state_ok {x : Ss} {c : Int} : FnOk Tryz.prog 24 [vC (.ptr 0 0), vI .i64 c] (ssO x) (vSt (stG x.A c).st (stG x.A c).re x.t (stG x.A c).q) (ssO x) := by
  have hg := x.A.get_eq c
  unfold stG
  cases h : x.A.get c with
  | some v =>
    obtain ⟨a, b, l, d⟩ := v
    rw [h] at hg
    refine FnOk.tree t24 (.a (.mp (some [.int .i64 a, .int .i64 b, .int .i64 l, .int .u64 d])) (.a (.call [0, 1, 2, 3, 4, 5, 6, 7] [] .u []) .nil)) rfl rfl rfl rfl ?_
    repeat' apply And.intro
    all_goals first | trivial | rfl | exact .refl _ | exact leP_refl _ | (simp [leVs, leP, leE, leL, leC]; done) | simpa using h | simpa using he
  | none =>
    rw [h] at hg
    refine FnOk.tree t24 (.a (.mp none) (.a (.call [0, 1, 2, 3, 4, 5, 6, 7] [] .u []) .nil)) rfl rfl rfl rfl ?_
    repeat' apply And.intro
    all_goals first | trivial | rfl | exact .refl _ | exact leP_refl _ | (simp [leVs, leP, leE, leL, leC]; done) | simpa using h | simpa using he
theorem open_ok {x : Ss} {c : Int} : FnOk Tryz.prog 157 [vC (.ptr 0 0), vI .i64 c] (ssO x) (vB ((stG x.A c).st == 1)) (ssO x) := by
  have hg := x.A.get_eq c
  unfold stG
  cases h : x.A.get c with
  | some v =>
    obtain ⟨a, b, l, d⟩ := v
    rw [h] at hg
    refine FnOk.tree t157 (.a (.mp (some [.int .i64 a, .int .i64 b, .int .i64 l, .int .u64 d])) (.a (.call [0, 1, 2, 3, 4, 5, 6, 7] [] .u []) .nil)) rfl rfl rfl rfl ?_
    repeat' apply And.intro
    all_goals first | trivial | rfl | exact .refl _ | exact leP_refl _ | (simp [leVs, leP, leE, leL, leC]; done) | simpa using h | simpa using he
  | none =>
    rw [h] at hg
    refine FnOk.tree t157 (.a (.mp none) (.a (.call [0, 1, 2, 3, 4, 5, 6, 7] [] .u []) .nil)) rfl rfl rfl rfl ?_
    repeat' apply And.intro
    all_goals first | trivial | rfl | exact .refl _ | exact leP_refl _ | (simp [leVs, leP, leE, leL, leC]; done) | simpa using h | simpa using he
def turnR (x : Ss) (c st re q : Int) : Ss := { x with A := x.A.set c ⟨st, re, 0, q⟩, b := if st = 1 then x.b else x.b.del c }
theorem ssO_set (x : Ss) (c : Int) (v : Ses) (b : Bk) : ssO { x with A := x.A.set c v, b := b } = [.box [.ptr 1 0, .t (.int .i64 x.t), .ptr 5 0, .mp 7], .box [.ptr 2 0, .t (.int .i64 x.e.most), .t (.int .i64 x.e.spans), .t (.int .i64 x.e.writes), .mp 4], stB x.s 3, stM x.s, eM x.M, .box [.t (.int .i64 x.t), .mp 6], bkM b, .mp true (x.A.mp.set c (sds v))] := by
  show [_, _, _, _, _, _, _, Ob.mp true (x.A.set c v).mp] = _
  rw [Ao.set_eq]
theorem turn_ok {x : Ss} {c st re q : Int} : FnOk Tryz.prog 82 [vC (.ptr 0 0), vI .i64 c, vI .i64 st, vI .i64 re, vI .u64 q] (ssO x) (.tup []) (ssO (turnR x c st re q)) := by
  unfold turnR
  by_cases h : st = 1
  · subst h
    rw [if_pos rfl, ssO_set]
    refine FnOk.tree t82 (.a (.b 21 false) (.a (.call [0, 1, 2, 3, 4, 5, 6, 7] [] .u []) .nil)) rfl rfl rfl rfl ?_
    repeat' apply And.intro
    all_goals first | trivial | rfl | exact .refl _ | exact leP_refl _ | (simp [leVs, leP, leE, leL, leC]; done) | simpa using h | simpa using he
  · rw [if_neg h, ssO_set]
    have hd := drop_ok (t := x.t) (k := c) (b := x.b)
    refine FnOk.tree t82 (.a (.b 21 true) (.o [5, 6] [] hd (.a (.call [0, 1, 2, 3, 4, 5, 6, 7] [] .u []) .nil))) rfl rfl rfl rfl ?_
    repeat' apply And.intro
    all_goals first | trivial | rfl | exact .refl _ | exact leP_refl _ | (simp [leVs, leP, leE, leL, leC]; done) | simpa using h | simpa using he
def beginR (x : Ss) (c : Int) : Int × Ss :=
  if ((stG x.A c).st == 1) = true then (6, x) else if (begR x.e x.s x.M c).1 ≠ 0 then ((begR x.e x.s x.M c).1, { x with M := (begR x.e x.s x.M c).2 }) else
    (0, { x with M := (begR x.e x.s x.M c).2, A := x.A.set c ⟨1, 0, 0, x.s.last⟩, b := x.b.set c x.t })
theorem ssBegin_ok {x : Ss} {c : Int} : FnOk Tryz.prog 175 [vC (.ptr 0 0), vI .i64 c] (ssO x) (vI .i64 (beginR x c).1) (ssO (beginR x c).2) := by
  have ho := open_ok (x := x) (c := c)
  unfold beginR
  cases hb : ((stG x.A c).st == 1) with
  | true =>
    rw [hb] at ho
    rw [if_pos rfl]
    refine FnOk.tree t175 (.o [0, 1, 2, 3, 4, 5, 6, 7] [] ho (.a (.call [0, 1, 2, 3, 4, 5, 6, 7] [] .u []) .nil)) rfl rfl rfl rfl ?_
    repeat' apply And.intro
    all_goals first | trivial | rfl | exact .refl _ | exact leP_refl _ | (simp [leVs, leP, leE, leL, leC]; done) | simpa using h | simpa using he
  | false =>
    rw [hb] at ho
    rw [if_neg (by simp)]
    have h1 := begin_ok (e := x.e) (s := x.s) (M := x.M) (k := c)
    generalize begR x.e x.s x.M c = r at *
    obtain ⟨err, M'⟩ := r
    simp only
    by_cases he : err = 0
    · subst he
      rw [if_neg (by simp)]
      have h2 := eStore_ok (e := x.e) (s := x.s) (M := M')
      have h3 := sLast_ok (s := x.s)
      have h4 := turn_ok (x := { x with M := M' }) (c := c) (st := 1) (re := 0) (q := x.s.last)
      have e4 : turnR { x with M := M' } c 1 0 x.s.last = { x with M := M', A := x.A.set c ⟨1, 0, 0, x.s.last⟩ } := by simp [turnR]
      rw [e4] at h4
      have h5 := hear_ok (t := x.t) (k := c) (b := x.b)
      refine FnOk.tree t175 (.o [0, 1, 2, 3, 4, 5, 6, 7] [] ho (.o [1, 2, 3, 4] [] h1 (.a (.b 16 false) (.o [1, 2, 3, 4] [] h2 (.o [2, 3] [] h3 (.o [0, 1, 2, 3, 4, 5, 6, 7] [] h4 (.o [5, 6] [] h5 (.a (.call [0, 1, 2, 3, 4, 5, 6, 7] [] .u []) .nil)))))))) rfl rfl rfl rfl ?_
      repeat' apply And.intro
      all_goals first | trivial | rfl | exact .refl _ | exact leP_refl _ | (simp [leVs, leP, leE, leL, leC]; done) | simpa using h | simpa using he
    · rw [if_pos he]
      refine FnOk.tree t175 (.o [0, 1, 2, 3, 4, 5, 6, 7] [] ho (.o [1, 2, 3, 4] [] h1 (.a (.b 16 true) (.a (.call [0, 1, 2, 3, 4, 5, 6, 7] [] .u []) .nil)))) rfl rfl rfl rfl ?_
      repeat' apply And.intro
      all_goals first | trivial | rfl | exact .refl _ | exact leP_refl _ | (simp [leVs, leP, leE, leL, leC]; done) | simpa using h | simpa using he
def whyN (e : Int) : Int := if e = 7 then 2 else if e = 4 then 4 else if e = 8 then 5 else 0
theorem why_ok {e : Int} : FnOk Tryz.prog 223 [vI .i64 e] [] (vI .i64 (whyN e)) [] := by
  refine FnOk.tree t223 (.br 4 .nil (.br 6 .nil (.br 8 .nil .nil))) rfl rfl rfl rfl ?_
  simp [leP, leE, leC, whyN]
  omega
structure SsGo (x : Ss) (c : Int) : Prop where
  s : StGo x.s
  v : ∀ v, x.M.get c = some v → VwOk v
def scomR (x : Ss) (c : Int) : Int × Ss :=
  if ((stG x.A c).st == 1) = false then (5, x) else
    ((comR x.s x.M c).2.1, turnR { x with s := (comR x.s x.M c).2.2.1, M := (comR x.s x.M c).2.2.2 } c 0 (whyN (comR x.s x.M c).2.1) (comR x.s x.M c).1)
theorem ssCommit_ok {x : Ss} {c : Int} (hx : SsGo x c) : FnOk Tryz.prog 176 [vC (.ptr 0 0), vI .i64 c] (ssO x) (vI .i64 (scomR x c).1) (ssO (scomR x c).2) := by
  have ho := open_ok (x := x) (c := c)
  unfold scomR
  cases hb : ((stG x.A c).st == 1) with
  | false =>
    rw [hb] at ho
    rw [if_pos rfl]
    refine FnOk.tree t176 (.o [0, 1, 2, 3, 4, 5, 6, 7] [] ho (.a (.call [0, 1, 2, 3, 4, 5, 6, 7] [] .u []) .nil)) rfl rfl rfl rfl ?_
    repeat' apply And.intro
    all_goals first | trivial | rfl | exact .refl _ | exact leP_refl _ | (simp [leVs, leP, leE, leL, leC]; done) | simpa using h | simpa using he
  | true =>
    rw [hb] at ho
    rw [if_neg (by simp)]
    have h1 := commit_ok (e := x.e) (s := x.s) (M := x.M) (k := c) hx.s hx.v
    generalize comR x.s x.M c = r at *
    obtain ⟨q, err, s', M'⟩ := r
    simp only
    have h2 := why_ok (e := err)
    have h3 := turn_ok (x := { x with s := s', M := M' }) (c := c) (st := 0) (re := whyN err) (q := q)
    refine FnOk.tree t176 (.o [0, 1, 2, 3, 4, 5, 6, 7] [] ho (.o [1, 2, 3, 4] [] h1 (.f [] h2 (.o [0, 1, 2, 3, 4, 5, 6, 7] [] h3 (.a (.call [0, 1, 2, 3, 4, 5, 6, 7] [] .u []) .nil))))) rfl rfl rfl rfl ?_
    repeat' apply And.intro
    all_goals first | trivial | rfl | exact .refl _ | exact leP_refl _ | (simp [leVs, leP, leE, leL, leC]; done) | simpa using h | simpa using he
def sabR (x : Ss) (c : Int) : Int × Ss := if ((stG x.A c).st == 1) = false then (5, x) else (0, turnR { x with M := x.M.del c } c 0 1 0)
theorem ssAbort_ok {x : Ss} {c : Int} : FnOk Tryz.prog 177 [vC (.ptr 0 0), vI .i64 c] (ssO x) (vI .i64 (sabR x c).1) (ssO (sabR x c).2) := by
  have ho := open_ok (x := x) (c := c)
  unfold sabR
  cases hb : ((stG x.A c).st == 1) with
  | false =>
    rw [hb] at ho
    rw [if_pos rfl]
    refine FnOk.tree t177 (.o [0, 1, 2, 3, 4, 5, 6, 7] [] ho (.a (.call [0, 1, 2, 3, 4, 5, 6, 7] [] .u []) .nil)) rfl rfl rfl rfl ?_
    repeat' apply And.intro
    all_goals first | trivial | rfl | exact .refl _ | exact leP_refl _ | (simp [leVs, leP, leE, leL, leC]; done) | simpa using h | simpa using he
  | true =>
    rw [hb] at ho
    rw [if_neg (by simp)]
    have h1 := abort_ok (e := x.e) (s := x.s) (M := x.M) (k := c)
    have h3 := turn_ok (x := { x with M := x.M.del c }) (c := c) (st := 0) (re := 1) (q := 0)
    refine FnOk.tree t177 (.o [0, 1, 2, 3, 4, 5, 6, 7] [] ho (.o [1, 2, 3, 4] [] h1 (.o [0, 1, 2, 3, 4, 5, 6, 7] [] h3 (.a (.call [0, 1, 2, 3, 4, 5, 6, 7] [] .u []) .nil)))) rfl rfl rfl rfl ?_
    repeat' apply And.intro
    all_goals first | trivial | rfl | exact .refl _ | exact leP_refl _ | (simp [leVs, leP, leE, leL, leC]; done) | simpa using h | simpa using he
end Go.Proofs.YthddlkhfkncgpaaGreat

set_option maxRecDepth 100000
set_option maxHeartbeats 1000000
set_option linter.unusedVariables false
set_option linter.unusedSimpArgs false
namespace Go.Proofs.YthddlkhfkncgpaaGreat
open Go.RowKit

def metR (x : Ss) (c e : Int) : Ss := if e = 4 then turnR x c 2 4 0 else x
theorem met_ok {x : Ss} {c e : Int} : FnOk Tryz.prog 179 [vC (.ptr 0 0), vI .i64 c, vI .i64 e] (ssO x) (vI .i64 e) (ssO (metR x c e)) := by
  unfold metR
  by_cases h : e = 4
  · subst h
    rw [if_pos rfl]
    have ht := turn_ok (x := x) (c := c) (st := 2) (re := 4) (q := 0)
    refine FnOk.tree t179 (.a (.b 8 true) (.o [0, 1, 2, 3, 4, 5, 6, 7] [] ht (.a (.call [0, 1, 2, 3, 4, 5, 6, 7] [] .u []) .nil))) rfl rfl rfl rfl ?_
    repeat' apply And.intro
    all_goals first | trivial | rfl | exact .refl _ | exact leP_refl _ | (simp [leVs, leP, leE, leL, leC]; done)
  · rw [if_neg h]
    refine FnOk.tree t179 (.a (.b 8 false) (.a (.call [0, 1, 2, 3, 4, 5, 6, 7] [] .u []) .nil)) rfl rfl rfl rfl ?_
    repeat' apply And.intro
    all_goals first | trivial | rfl | exact .refl _ | exact leP_refl _ | (simp [leVs, leP, leE, leL, leC]; done) | simpa using h
/-- What stands in the map of sessions at a number: the answer to a lookup. -/
theorem ses_at (A : Ao) (c : Int) : (∃ v, A.get c = some v ∧ A.mp.get c = some (sds v) ∧ stG A c = v) ∨ (A.get c = none ∧ A.mp.get c = none ∧ stG A c = ⟨0, 0, 0, 0⟩) := by
  have hg := A.get_eq c
  unfold stG
  cases h : A.get c with
  | some v => rw [h] at hg; exact .inl ⟨v, rfl, hg, rfl⟩
  | none => rw [h] at hg; exact .inr ⟨rfl, hg, rfl⟩
def sreadR (x : Ss) (c : Int) (sp : Spn) : List Int × Int × Ss :=
  if spnR sp = false then ([], 1, x) else if (stG x.A c).st = 1 then ((readR x.e x.s x.M c sp).1, (readR x.e x.s x.M c sp).2.1, metR { x with M := (readR x.e x.s x.M c sp).2.2 } c (readR x.e x.s x.M c sp).2.1) else
    if (stG x.A c).st = 2 then ([], 5, x) else (lookL x.s.L [] x.s.last sp, 0, x)
theorem ssRead_ok {x : Ss} {c : Int} {sp : Spn} (hx : SsGo x c) : FnOk Tryz.prog 135 [vC (.ptr 0 0), vI .i64 c, vS3 sp] (ssO x) (vWE (sreadR x c sp).1 (sreadR x c sp).2.1) (ssO (sreadR x c sp).2.2) := by
  have hsr := sRight_ok (s := sp)
  unfold sreadR
  cases hb : spnR sp with
  | false =>
    rw [hb] at hsr
    rw [if_pos rfl]
    refine FnOk.tree t135 (.f [] hsr (.a (.call [0, 1, 2, 3, 4, 5, 6, 7] [] .u []) .nil)) rfl rfl rfl rfl ?_
    repeat' apply And.intro
    all_goals first | trivial | rfl | exact .refl _ | exact leP_refl _ | (simp [leVs, leP, leE, leEs, leL, leC, rI]; done)
  | true =>
    rw [hb] at hsr
    rw [if_neg (by simp)]
    have hspb : SpB sp := by simp [spnR] at hb; omega
    have open1 : (stG x.A c).st = 1 → FnOk Tryz.prog 135 [vC (.ptr 0 0), vI .i64 c, vS3 sp] (ssO x) (vWE (readR x.e x.s x.M c sp).1 (readR x.e x.s x.M c sp).2.1) (ssO (metR { x with M := (readR x.e x.s x.M c sp).2.2 } c (readR x.e x.s x.M c sp).2.1)) := by
      intro hst
      have hr := eRead_ok (e := x.e) (s := x.s) (M := x.M) (k := c) (sp := sp) hx.s.ok hx.v
      generalize readR x.e x.s x.M c sp = r at *
      obtain ⟨ws, err, M'⟩ := r
      have hm := met_ok (x := { x with M := M' }) (c := c) (e := err)
      rcases ses_at x.A c with ⟨v, _, hg, hv⟩ | ⟨_, hg, hv⟩
      · obtain ⟨a, b, l, d⟩ := v
        rw [hv] at hst
        simp only at hst
        subst hst
        refine FnOk.tree t135 (.f [] hsr (.a (.mp (some [.int .i64 1, .int .i64 b, .int .i64 l, .int .u64 d])) (.a (.b 22 true) (.o [1, 2, 3, 4] [] hr (.o [0, 1, 2, 3, 4, 5, 6, 7] [] hm (.a (.call [0, 1, 2, 3, 4, 5, 6, 7] [] .u []) .nil)))))) rfl rfl rfl rfl ?_
        repeat' apply And.intro
        all_goals first | trivial | rfl | exact .refl _ | exact leP_refl _ | (simp [leVs, leP, leE, leEs, leL, leC, rI]; done)
      · rw [hv] at hst; simp at hst
    by_cases h1 : (stG x.A c).st = 1
    · rw [if_pos h1]
      exact open1 h1
    rw [if_neg h1]
    by_cases h2 : (stG x.A c).st = 2
    · rw [if_pos h2]
      rcases ses_at x.A c with ⟨v, _, hg, hv⟩ | ⟨_, hg, hv⟩
      · obtain ⟨a, b, l, d⟩ := v
        rw [hv] at h2
        simp only at h2
        subst h2
        refine FnOk.tree t135 (.f [] hsr (.a (.mp (some [.int .i64 2, .int .i64 b, .int .i64 l, .int .u64 d])) (.a (.b 22 false) (.a (.b 39 true) (.a (.call [0, 1, 2, 3, 4, 5, 6, 7] [] .u []) .nil))))) rfl rfl rfl rfl ?_
        repeat' apply And.intro
        all_goals first | trivial | rfl | exact .refl _ | exact leP_refl _ | (simp [leVs, leP, leE, leEs, leL, leC, rI]; done)
      · rw [hv] at h2; simp at h2
    rw [if_neg h2]
    have hS := eStore_ok (e := x.e) (s := x.s) (M := x.M)
    have hL := sLast_ok (s := x.s)
    have hk := look_ok hx.s.ok (q := x.s.last) (R := []) (W := []) (by simp) (sp := sp) hspb.1 hspb.2
    rcases ses_at x.A c with ⟨v, _, hg, hv⟩ | ⟨_, hg, hv⟩
    · obtain ⟨a, b, l, d⟩ := v
      rw [hv] at h1 h2
      simp only at h1 h2
      refine FnOk.tree t135 (.f [] hsr (.a (.mp (some [.int .i64 a, .int .i64 b, .int .i64 l, .int .u64 d])) (.a (.b 22 false) (.a (.b 39 false) (.o [1, 2, 3, 4] [] hS (.o [2, 3] [] hL (.o [2, 3] [] hk (.a (.call [0, 1, 2, 3, 4, 5, 6, 7] [] .u []) .nil)))))))) rfl rfl rfl rfl ?_
      repeat' apply And.intro
      all_goals first | trivial | rfl | exact .refl _ | exact leP_refl _ | (simp [leVs, leP, leE, leEs, leL, leC, rI, rwS, rwC]; done) | simpa using h1 | simpa using h2
    · refine FnOk.tree t135 (.f [] hsr (.a (.mp none) (.a (.b 22 false) (.a (.b 39 false) (.o [1, 2, 3, 4] [] hS (.o [2, 3] [] hL (.o [2, 3] [] hk (.a (.call [0, 1, 2, 3, 4, 5, 6, 7] [] .u []) .nil)))))))) rfl rfl rfl rfl ?_
      repeat' apply And.intro
      all_goals first | trivial | rfl | exact .refl _ | exact leP_refl _ | (simp [leVs, leP, leE, leEs, leL, leC, rI, rwS, rwC]; done)
def swriteR (x : Ss) (c : Int) (l : List Cel) : Int × Ss :=
  if (stG x.A c).st = 1 then ((writeR x.e x.M c l).1, metR { x with M := (writeR x.e x.M c l).2 } c (writeR x.e x.M c l).1) else
    if (stG x.A c).st = 2 then (5, x) else ((instR x.s l).2.1, { x with s := (instR x.s l).2.2 })
theorem ssWrite_ok {x : Ss} {c : Int} {l : List Cel} (hl : l.length ≤ 1000000) (hx : SsGo x c) : FnOk Tryz.prog 136 [vC (.ptr 0 0), vI .i64 c, vCl l] (ssO x) (vI .i64 (swriteR x c l).1) (ssO (swriteR x c l).2) := by
  unfold swriteR
  by_cases h1 : (stG x.A c).st = 1
  · rw [if_pos h1]
    have hr := eWrite_ok (e := x.e) (s := x.s) (M := x.M) (k := c) hl hx.v
    generalize writeR x.e x.M c l = r at *
    obtain ⟨err, M'⟩ := r
    have hm := met_ok (x := { x with M := M' }) (c := c) (e := err)
    rcases ses_at x.A c with ⟨v, _, hg, hv⟩ | ⟨_, hg, hv⟩
    · obtain ⟨a, b, l', d⟩ := v
      rw [hv] at h1
      simp only at h1
      subst h1
      refine FnOk.tree t136 (.a (.mp (some [.int .i64 1, .int .i64 b, .int .i64 l', .int .u64 d])) (.a (.b 17 true) (.o [1, 2, 3, 4] [] hr (.o [0, 1, 2, 3, 4, 5, 6, 7] [] hm (.a (.call [0, 1, 2, 3, 4, 5, 6, 7] [] .u []) .nil))))) rfl rfl rfl rfl ?_
      repeat' apply And.intro
      all_goals first | trivial | rfl | exact .refl _ | exact leP_refl _ | (simp [leVs, leP, leE, leEs, leL, leC, rI]; done)
    · rw [hv] at h1; simp at h1
  rw [if_neg h1]
  by_cases h2 : (stG x.A c).st = 2
  · rw [if_pos h2]
    rcases ses_at x.A c with ⟨v, _, hg, hv⟩ | ⟨_, hg, hv⟩
    · obtain ⟨a, b, l', d⟩ := v
      rw [hv] at h2
      simp only at h2
      subst h2
      refine FnOk.tree t136 (.a (.mp (some [.int .i64 2, .int .i64 b, .int .i64 l', .int .u64 d])) (.a (.b 17 false) (.a (.b 29 true) (.a (.call [0, 1, 2, 3, 4, 5, 6, 7] [] .u []) .nil)))) rfl rfl rfl rfl ?_
      repeat' apply And.intro
      all_goals first | trivial | rfl | exact .refl _ | exact leP_refl _ | (simp [leVs, leP, leE, leEs, leL, leC, rI]; done)
    · rw [hv] at h2; simp at h2
  rw [if_neg h2]
  have hS := eStore_ok (e := x.e) (s := x.s) (M := x.M)
  have hi := inst_ok hx.s.len hx.s.ch hx.s.last hx.s.n hx.s.most (l := l) (by omega)
  generalize instR x.s l = r at *
  obtain ⟨q, err, s'⟩ := r
  rcases ses_at x.A c with ⟨v, _, hg, hv⟩ | ⟨_, hg, hv⟩
  · obtain ⟨a, b, l', d⟩ := v
    rw [hv] at h1 h2
    simp only at h1 h2
    refine FnOk.tree t136 (.a (.mp (some [.int .i64 a, .int .i64 b, .int .i64 l', .int .u64 d])) (.a (.b 17 false) (.a (.b 29 false) (.o [1, 2, 3, 4] [] hS (.o [2, 3] [] hi (.a (.call [0, 1, 2, 3, 4, 5, 6, 7] [] .u []) .nil)))))) rfl rfl rfl rfl ?_
    repeat' apply And.intro
    all_goals first | trivial | rfl | exact .refl _ | exact leP_refl _ | (simp [leVs, leP, leE, leEs, leL, leC, rI, rwS, rwC]; done) | simpa using h1 | simpa using h2
  · refine FnOk.tree t136 (.a (.mp none) (.a (.b 17 false) (.a (.b 29 false) (.o [1, 2, 3, 4] [] hS (.o [2, 3] [] hi (.a (.call [0, 1, 2, 3, 4, 5, 6, 7] [] .u []) .nil)))))) rfl rfl rfl rfl ?_
    repeat' apply And.intro
    all_goals first | trivial | rfl | exact .refl _ | exact leP_refl _ | (simp [leVs, leP, leE, leEs, leL, leC, rI, rwS, rwC]; done)
def hearR (x : Ss) (c : Int) : Ss := if ((stG x.A c).st == 1) = true then { x with b := x.b.set c x.t } else x
theorem ssHear_ok {x : Ss} {c : Int} : FnOk Tryz.prog 103 [vC (.ptr 0 0), vI .i64 c] (ssO x) (.tup []) (ssO (hearR x c)) := by
  have ho := open_ok (x := x) (c := c)
  unfold hearR
  cases hb : ((stG x.A c).st == 1) with
  | false =>
    rw [hb] at ho
    rw [if_neg (by simp)]
    refine FnOk.tree t103 (.o [0, 1, 2, 3, 4, 5, 6, 7] [] ho (.a (.call [0, 1, 2, 3, 4, 5, 6, 7] [] .u []) .nil)) rfl rfl rfl rfl ?_
    repeat' apply And.intro
    all_goals first | trivial | rfl | exact .refl _ | exact leP_refl _ | (simp [leVs, leP, leE, leEs, leL, leC, rI]; done)
  | true =>
    rw [hb] at ho
    rw [if_pos rfl]
    have hh := hear_ok (t := x.t) (k := c) (b := x.b)
    refine FnOk.tree t103 (.o [0, 1, 2, 3, 4, 5, 6, 7] [] ho (.o [5, 6] [] hh (.a (.call [0, 1, 2, 3, 4, 5, 6, 7] [] .u []) .nil))) rfl rfl rfl rfl ?_
    repeat' apply And.intro
    all_goals first | trivial | rfl | exact .refl _ | exact leP_refl _ | (simp [leVs, leP, leE, leEs, leL, leC, rI]; done)
def otherB (v : Ses) : Bool := !(v.st == 0 && (v.re == 0 && (v.le == 0 && (v.q == 0 && true))))
def closeR (x : Ss) (c : Int) : Bool × Ss := (otherB (stG x.A c), { x with M := if ((stG x.A c).st == 1) = true then x.M.del c else x.M, b := x.b.del c, A := x.A.del c })
theorem ssO_del (x : Ss) (c : Int) (M : Mo) (b : Bk) : ssO { x with M := M, b := b, A := x.A.del c } = [.box [.ptr 1 0, .t (.int .i64 x.t), .ptr 5 0, .mp 7], .box [.ptr 2 0, .t (.int .i64 x.e.most), .t (.int .i64 x.e.spans), .t (.int .i64 x.e.writes), .mp 4], stB x.s 3, stM x.s, eM M, .box [.t (.int .i64 x.t), .mp 6], bkM b, .mp true (x.A.mp.del c)] := by
  show [_, _, _, _, _, _, _, Ob.mp true (x.A.del c).mp] = _
  rw [Ao.del_eq]
end Go.Proofs.YthddlkhfkncgpaaGreat

set_option maxRecDepth 100000
set_option maxHeartbeats 1000000
set_option linter.unusedVariables false
set_option linter.unusedSimpArgs false
namespace Go.Proofs.YthddlkhfkncgpaaGreat
open Go.RowKit

def overR (x : Ss) (c : Int) : Ss := turnR { x with M := x.M.del c } c 2 3 0
def oversR (x : Ss) (l : List Int) : Ss := l.foldl overR x
theorem oversR_succ {x : Ss} {l : List Int} {i : Nat} (h : i < l.length) : oversR x (l.take (i + 1)) = overR (oversR x (l.take i)) l[i] := by
  unfold oversR
  rw [← List.take_append_getElem h, List.foldl_append]
  rfl
def stickR (x : Ss) : List Int × Ss := (srt x.b.out, oversR { x with b := x.b.tick } (srt x.b.out))
theorem ssTick_ok {x : Ss} (hw : x.b.Wf) (hl : x.b.es.length ≤ 12) : FnOk Tryz.prog 34 [vC (.ptr 0 0)] (ssO x) (lN (stickR x).1) (ssO (stickR x).2) := by
  have ht := tick_ok (t := x.t) hw hl
  unfold stickR
  refine FnOk.start t34 rfl rfl rfl ?_
  refine Tri.seq (Tri.go [] rfl trivial ?_)
  refine Tri.seq (Tri.tree (.o [5, 6] [] ht .nil) rfl ⟨trivial, by simp [leVs, leP, leE, leL, leC], rfl, ?_⟩)
  have hO : (srt x.b.out).length ≤ 12 := by
    rw [srt_len]
    have := List.length_filter_le (fun e : Nat × Int × Int => decide (e.2.2 ≤ 1)) x.b.es
    unfold Bk.out
    rw [List.length_map]
    omega
  simp only
  generalize srt x.b.out = O at *
  refine Tri.mid (fun ρ hl => hl = ssO (oversR { x with b := x.b.tick } O) ∧ keepE ρ [3] = some [(3, lN O)]) ?_ ?_
  · refine Tri.seq (Tri.go [] rfl trivial ?_)
    refine Tri.block ?_
    refine Tri.lp (fun z ρ hl => ∃ i, z = O.length - i ∧ i ≤ O.length ∧ hl = ssO (oversR { x with b := x.b.tick } (O.take i)) ∧
      keepE ρ [0, 3, 11, 12, 13] = some [(0, vC (.ptr 0 0)), (3, lN O), (11, lN O), (12, vI .i64 O.length), (13, vI .i64 i)]) O.length ⟨0, by omega, by omega, rfl, keep_of rfl rfl⟩ ?_
    rintro z ρ hl' ⟨i, rfl, hi, rfl, hkk⟩
    refine Tri.keep _ hkk ?_
    by_cases h : i < O.length
    · have hg : (rI .i64 O)[i]? = some [.int .i64 O[i]] := by simp [rI, h]
      have hsx := oversR_succ (x := { x with b := x.b.tick }) h
      generalize O[i] = c at *
      generalize oversR { x with b := x.b.tick } (O.take i) = y at *
      have ha := abort_ok (e := y.e) (s := y.s) (M := y.M) (k := c)
      have htn := turn_ok (x := { y with M := y.M.del c }) (c := c) (st := 2) (re := 3) (q := 0)
      refine Tri.seq (Tri.go [] rfl trivial (Tri.seq (Tri.go [.b 14 true] rfl ⟨decide_eq_true (by omega), trivial⟩ ?_)))
      refine Tri.seq (Tri.block (Tri.seq (Tri.tree (.a (.at [.int .i64 c]) .nil) rfl ⟨⟨by omega, rfl, hg⟩, ?_⟩)))
      refine Tri.seq (Tri.tree (.o [1, 2, 3, 4] [] ha .nil) rfl ⟨trivial, by simp [leVs, leP, leE, leL, leC], rfl, ?_⟩)
      refine Tri.tree (.o [0, 1, 2, 3, 4, 5, 6, 7] [] htn .nil) rfl ⟨trivial, by simp [leVs, leP, leE, leL, leC], rfl, ?_⟩
      exact Tri.go [] rfl ⟨by omega, trivial⟩ (again (O.length - (i + 1)) (by omega) ⟨i + 1, rfl, by omega, by rw [hsx]; rfl, keep_of rfl (by simp)⟩)
    · have : i = O.length := by omega
      subst this
      rw [List.take_length]
      exact Tri.seq (Tri.go [] rfl trivial (Tri.seq (Tri.go [.b 14 false] rfl ⟨decide_eq_false (by omega), trivial⟩ (And.intro rfl (keep_of rfl rfl)))))
  rintro ρ hl' ⟨rfl, hkk⟩
  refine Tri.keep _ hkk ?_
  exact Tri.treeR (.a (.call [0, 1, 2, 3, 4, 5, 6, 7] [] .u []) .nil) rfl ⟨trivial, .refl _, leP_refl _⟩
end Go.Proofs.YthddlkhfkncgpaaGreat
