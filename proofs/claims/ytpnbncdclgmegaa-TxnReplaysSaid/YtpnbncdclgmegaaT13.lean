/-
  The engine: New, Begin, keep, View, Abort, Store.
-/
import Derived.Test.YtpnbncdclgmegaaT12
set_option maxRecDepth 100000
set_option maxHeartbeats 1000000
set_option linter.unusedVariables false
set_option linter.unusedSimpArgs false
namespace Go.Proofs.Ytpnbncdclgmegaa
open Go.RowKit

theorem LeMs.modify {a b : List D} (h : LeDs a b) : ∀ (l : List (Nat × Int × List D)) (j : Nat), LeMs (l.modify j fun e => (e.1, e.2.1, a)) (l.modify j fun e => (e.1, e.2.1, b))
  | [], j => by simp; exact .nil
  | (s, k, d) :: l, 0 => by simp; exact .cons h (LeMs.refl l)
  | (s, k, d) :: l, j + 1 => by simp; exact .cons (LeDs.refl d) (LeMs.modify h l j)
theorem LeMs.snoc {s : Nat} {k : Int} {a b : List D} (h : LeDs a b) : ∀ (l : List (Nat × Int × List D)), LeMs (l ++ [(s, k, a)]) (l ++ [(s, k, b)])
  | [] => .cons h .nil
  | (s, k, d) :: l => .cons (LeDs.refl d) (LeMs.snoc h l)
theorem Mp.set_le {ag : Bool} {m : Mp} {k : Int} {a b : List D} (h : LeDs a b) : Ob.le (.mp ag (m.set k a)) (.mp ag (m.set k b)) := by
  unfold Mp.set
  split
  · exact .mp (LeMs.modify h _ _)
  · exact .mp (LeMs.snoc h _)
/-- What a transaction sees, has read, and writes. -/
structure Vw where
  q : Int
  R : List Spn
  W : List Cel
def vds (v : Vw) : List D := [.int .u64 v.q, lSp v.R, lCl v.W]
/-- The transactions that are open, by their owners. -/
structure Mo where
  ck : Nat
  es : List (Nat × Int × Vw)
def moE (e : Nat × Int × Vw) : Nat × Int × List D := (e.1, e.2.1, vds e.2.2)
def Mo.mp (b : Mo) : Mp := ⟨b.ck, b.es.map moE⟩
def Mo.at (b : Mo) (k : Int) : Nat := b.es.findIdx fun e => e.2.1 == k
def Mo.get (b : Mo) (k : Int) : Option Vw := (b.es[b.at k]?).map (·.2.2)
def Mo.set (b : Mo) (k : Int) (v : Vw) : Mo := if b.at k < b.es.length then ⟨b.ck, b.es.modify (b.at k) fun e => (e.1, e.2.1, v)⟩ else ⟨b.ck + 1, b.es ++ [(b.ck, k, v)]⟩
def Mo.del (b : Mo) (k : Int) : Mo := ⟨b.ck, b.es.eraseIdx (b.at k)⟩
theorem Mo.at_eq (b : Mo) (k : Int) : b.mp.at k = b.at k := by
  unfold Mp.at Mo.at Mo.mp
  rw [List.findIdx_map]
  rfl
theorem Mo.get_eq (b : Mo) (k : Int) : b.mp.get k = (b.get k).map vds := by
  unfold Mp.get Mo.get
  rw [Mo.at_eq]
  simp [Mo.mp, moE]
  cases b.es[b.at k]? <;> rfl
theorem Mo.set_eq (b : Mo) (k : Int) (v : Vw) : b.mp.set k (vds v) = (b.set k v).mp := by
  unfold Mp.set Mo.set
  rw [Mo.at_eq]
  have : b.mp.es.length = b.es.length := by simp [Mo.mp]
  rw [this]
  split
  · simp only [Mo.mp, Mp.mk.injEq, true_and]
    apply List.ext_getElem?
    intro i
    simp [List.getElem?_modify]
    cases b.es[i]? with
    | none => rfl
    | some e => by_cases h : b.at k = i <;> simp [h, moE]
  · simp [Mo.mp, moE]
theorem Mo.del_eq (b : Mo) (k : Int) : b.mp.del k = (b.del k).mp := by
  unfold Mp.del Mo.del
  rw [Mo.at_eq]
  simp only [Mo.mp, Mp.mk.injEq, true_and]
  apply List.ext_getElem?
  intro i
  simp [List.getElem?_eraseIdx]
  split <;> rfl
theorem Mo.len (b : Mo) : b.mp.es.length = b.es.length := by simp [Mo.mp]
/-- The engine's limits. -/
structure En where
  most : Int
  spans : Int
  writes : Int
abbrev enB (e : En) : Ob := .box [.ptr 1 0, .t (.int .i64 e.most), .t (.int .i64 e.spans), .t (.int .i64 e.writes), .mp 3]
abbrev eM (M : Mo) : Ob := .mp true M.mp
abbrev eO (e : En) (s : St) (M : Mo) : List Ob := [enB e, stB s 2, stM s, eM M]
theorem eO_set (e : En) (s : St) (M : Mo) (k : Int) (v : Vw) : eO e s (M.set k v) = [enB e, stB s 2, stM s, .mp true (M.mp.set k (vds v))] := by
  show [enB e, stB s 2, stM s, .mp true (M.set k v).mp] = _
  rw [Mo.set_eq]
theorem eO_del (e : En) (s : St) (M : Mo) (k : Int) : eO e s (M.del k) = [enB e, stB s 2, stM s, .mp true (M.mp.del k)] := by
  show [enB e, stB s 2, stM s, .mp true (M.del k).mp] = _
  rw [Mo.del_eq]
theorem eNew_ok {s : St} {a b c : Int} : FnOk Try.prog 13 [vC (.ptr 0 0), vI .i64 a, vI .i64 b, vI .i64 c] [stB s 1, stM s] (vC (.ptr 2 0)) [stB s 1, stM s, .box [.ptr 0 0, .t (.int .i64 (max a 0)), .t (.int .i64 (max b 0)), .t (.int .i64 (max c 0)), .mp 3], .mp true ⟨0, []⟩] := by
  refine FnOk.tree t13 (.a (.call [0, 1, 3, 2] [] .u []) .nil) rfl rfl rfl rfl ?_
  have e : ∀ x : Int, (if x < 0 then 0 else x) = max x 0 := fun x => by split <;> omega
  simp [leVs, leP, leE, leC, e]
  exact .refl _
theorem eStore_ok {e : En} {s : St} {M : Mo} : FnOk Try.prog 37 [vC (.ptr 0 0)] (eO e s M) (vC (.ptr 1 0)) (eO e s M) := by
  refine FnOk.tree t37 (.a (.call [0, 1, 2, 3] [] .u []) .nil) rfl rfl rfl rfl ?_
  exact ⟨trivial, .refl _, leP_refl _⟩
def begR (e : En) (s : St) (M : Mo) (k : Int) : Int × Mo :=
  if (M.get k).isSome then (6, M) else if e.most ≤ M.es.length then (4, M) else (0, M.set k ⟨s.last, [], []⟩)
theorem begin_ok {e : En} {s : St} {M : Mo} {k : Int} : FnOk Try.prog 17 [vC (.ptr 0 0), vI .i64 k] (eO e s M) (vI .i64 (begR e s M k).1) (eO e s (begR e s M k).2) := by
  have hg := M.get_eq k
  unfold begR
  cases h : M.get k with
  | some v =>
    obtain ⟨q, R, W⟩ := v
    rw [h] at hg
    refine FnOk.tree t17 (.a (.mp (some [.int .u64 q, lSp R, lCl W])) (.a (.call [0, 1, 2, 3] [] .u []) .nil)) rfl rfl rfl rfl ?_
    exact ⟨⟨hg, rfl⟩, trivial, .refl _, leP_refl _⟩
  | none =>
    rw [h] at hg
    have hL := sLast_ok (s := s)
    rw [if_neg (by simp)]
    by_cases hm : e.most ≤ M.es.length
    · rw [if_pos hm]
      refine FnOk.tree t17 (.a (.mp none) (.a (.b 26 true) (.a (.call [0, 1, 2, 3] [] .u []) .nil))) rfl rfl rfl rfl ?_
      exact ⟨hg, trivial, decide_eq_true (by rw [Mo.len]; exact hm), trivial, .refl _, leP_refl _⟩
    · rw [if_neg hm]
      refine FnOk.tree t17 (.a (.mp none) (.a (.b 26 false) (.o [1, 2] [] hL (.a (.call [0, 1, 2, 3] [] .u []) .nil)))) rfl rfl rfl rfl ?_
      refine ⟨hg, trivial, decide_eq_false (by rw [Mo.len]; exact hm), trivial, by simp [leVs, leP, leE, leC], rfl, trivial, trivial, ?_, leP_refl _⟩
      rw [eO_set]
      exact .cons (.refl _) (.cons (.refl _) (.cons (.refl _) (.cons (Mp.set_le (.cons (.refl _) (.cons (.nil 3) (.cons (.nil 3) .nil)))) .nil)))
def keepR (M : Mo) (k : Int) (v : Vw) (err : Int) : Mo := if err = 0 then M.set k v else M.del k
theorem keep_ok {e : En} {s : St} {M : Mo} {k err : Int} {q : Int} {R : List Spn} {W : List Cel} : FnOk Try.prog 49 [vC (.ptr 0 0), vI .i64 k, vVw q R W, vI .i64 err] (eO e s M) (vI .i64 err) (eO e s (keepR M k ⟨q, R, W⟩ err)) := by
  unfold keepR
  by_cases h : err = 0
  · subst h
    rw [if_pos rfl]
    refine FnOk.tree t49 (.a (.b 10 false) (.a (.call [0, 1, 2, 3] [] .u []) .nil)) rfl rfl rfl rfl ?_
    refine ⟨rfl, trivial, trivial, .of ?_, leP_refl _⟩
    rw [eO_set]
    rfl
  · rw [if_neg h]
    refine FnOk.tree t49 (.a (.b 10 true) (.a (.call [0, 1, 2, 3] [] .u []) .nil)) rfl rfl rfl rfl ?_
    refine ⟨by simpa using h, trivial, trivial, .of ?_, leP_refl _⟩
    rw [eO_del]
theorem abort_ok {e : En} {s : St} {M : Mo} {k : Int} : FnOk Try.prog 67 [vC (.ptr 0 0), vI .i64 k] (eO e s M) (vB (M.get k).isSome) (eO e s (M.del k)) := by
  have hg := M.get_eq k
  cases h : M.get k with
  | some v =>
    obtain ⟨q, R, W⟩ := v
    rw [h] at hg
    refine FnOk.tree t67 (.a (.mp (some [.int .u64 q, lSp R, lCl W])) (.a (.call [0, 1, 2, 3] [] .u []) .nil)) rfl rfl rfl rfl ?_
    refine ⟨⟨hg, rfl⟩, trivial, trivial, .of ?_, leP_refl _⟩
    rw [eO_del]
  | none =>
    rw [h] at hg
    refine FnOk.tree t67 (.a (.mp none) (.a (.call [0, 1, 2, 3] [] .u []) .nil)) rfl rfl rfl rfl ?_
    refine ⟨hg, trivial, trivial, .of ?_, leP_refl _⟩
    rw [eO_del]
structure VwOk (v : Vw) : Prop where
  R : v.R.length ≤ 1000000
  W : v.W.length ≤ 1000000
  rs : ∀ x ∈ v.R, SpB x
  ws : ∀ c ∈ v.W, CeB c
def vwR (o : Option Vw) : V := match o with
  | some v => .tup [eVw v.q v.R v.W, .c (.t (.bool true))]
  | none => .tup [eVw 0 [] [], .c (.t (.bool false))]
theorem eView_ok {e : En} {s : St} {M : Mo} {k : Int} (hv : ∀ v, M.get k = some v → VwOk v) : FnOk Try.prog 28 [vC (.ptr 0 0), vI .i64 k] (eO e s M) (vwR (M.get k)) (eO e s M) := by
  have hg := M.get_eq k
  cases h : M.get k with
  | some v =>
    have hok := hv v h
    obtain ⟨q, R, W⟩ := v
    rw [h] at hg
    refine FnOk.tree t28 (.a (.mp (some [.int .u64 q, lSp R, lCl W])) (.o [] [] (cloneS_ok (l := R) (by have := hok.R; simp at this; omega)) (.o [] [] (cloneC_ok (l := W) (by have := hok.W; simp at this; omega)) (.a (.call [0, 1, 2, 3] [6, 7] .u []) .nil)))) rfl rfl rfl rfl ?_
    refine ⟨⟨hg, rfl⟩, trivial, by simp [leVs, leP, leE, leC], rfl, trivial, by simp [leVs, leP, leE, leC], rfl, ?_⟩
    exact ⟨⟨by simp, by simp, trivial, trivial⟩, .refl _, by simp [vwR, leP, leE, leEs, leL, leC, rwS, rwC]⟩
  | none =>
    rw [h] at hg
    refine FnOk.tree t28 (.a (.mp none) (.o [] [] (cloneS_ok (l := []) (by simp)) (.o [] [] (cloneC_ok (l := []) (by simp)) (.a (.call [0, 1, 2, 3] [6, 7] .u []) .nil)))) rfl rfl rfl rfl ?_
    refine ⟨hg, trivial, by simp [leVs, leP, leE, leL, leC, rwS], rfl, trivial, by simp [leVs, leP, leE, leL, leC, rwC], rfl, ?_⟩
    exact ⟨⟨by simp, by simp, trivial, trivial⟩, .refl _, by simp [vwR, leP, leE, leEs, leL, leC, rwS, rwC]⟩
end Go.Proofs.Ytpnbncdclgmegaa
