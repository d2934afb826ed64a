/-
  The engine: Read, Write, Commit.
-/
import Derived.Test.YtpnbncdclgmegaaT13
set_option maxRecDepth 100000
set_option maxHeartbeats 1000000
set_option linter.unusedVariables false
set_option linter.unusedSimpArgs false
namespace Go.Proofs.Ytpnbncdclgmegaa
open Go.RowKit

def readR (e : En) (s : St) (M : Mo) (k : Int) (sp : Spn) : List Int × Int × Mo :=
  if spnR sp = false then ([], 1, M) else match M.get k with
    | none => ([], 5, M)
    | some v => ((vrdR s.L v.q v.R v.W sp e.spans).2.1, (vrdR s.L v.q v.R v.W sp e.spans).2.2, keepR M k ⟨v.q, (vrdR s.L v.q v.R v.W sp e.spans).1, v.W⟩ (vrdR s.L v.q v.R v.W sp e.spans).2.2)
abbrev vWE (l : List Int) (err : Int) : V := .tup [.c (.t (lI .u16 l)), .c (.t (.int .i64 err))]
theorem eRead_ok {e : En} {s : St} {M : Mo} {k : Int} {sp : Spn} (hs : StOk s) (hv : ∀ v, M.get k = some v → VwOk v) : FnOk Try.prog 18 [vC (.ptr 0 0), vI .i64 k, vS3 sp] (eO e s M) (vWE (readR e s M k sp).1 (readR e s M k sp).2.1) (eO e s (readR e s M k sp).2.2) := by
  have hg := M.get_eq k
  have hsr := sRight_ok (s := sp)
  unfold readR
  cases hb : spnR sp with
  | false =>
    rw [hb] at hsr
    rw [if_pos rfl]
    refine FnOk.tree t18 (.f [] hsr (.a (.call [0, 1, 2, 3] [] .u []) .nil)) rfl rfl rfl rfl ?_
    exact ⟨trivial, by simp [leVs, leP, leE, leL, leC], trivial, .refl _, by simp [leP, leE, leEs, leL, leC, rI]⟩
  | true =>
    rw [hb] at hsr
    rw [if_neg (by simp)]
    cases h : M.get k with
    | none =>
      rw [h] at hg
      refine FnOk.tree t18 (.f [] hsr (.a (.mp none) (.a (.call [0, 1, 2, 3] [] .u []) .nil))) rfl rfl rfl rfl ?_
      exact ⟨trivial, by simp [leVs, leP, leE, leL, leC], hg, trivial, .refl _, by simp [leP, leE, leEs, leL, leC, rI]⟩
    | some v =>
      have hok := hv v h
      obtain ⟨q, R, W⟩ := v
      rw [h] at hg
      have hspb : SpB sp := by
        simp [spnR] at hb
        omega
      have hvr := vread_ok hs (q := q) (R := R) (W := W) (sp := sp) (most := e.spans) hok.R hok.W hok.ws hspb
      simp only
      generalize vrdR s.L q R W sp e.spans = r at *
      obtain ⟨R', ws, err⟩ := r
      have hk := keep_ok (e := e) (s := s) (M := M) (k := k) (err := err) (q := q) (R := R') (W := W)
      refine FnOk.tree t18 (.f [] hsr (.a (.mp (some [.int .u64 q, lSp R, lCl W])) (.o [1, 2] [] hvr (.o [0, 1, 2, 3] [] hk (.a (.call [0, 1, 2, 3] [] .u []) .nil))))) rfl rfl rfl rfl ?_
      exact ⟨trivial, by simp [leVs, leP, leE, leL, leC], ⟨hg, rfl⟩, trivial, by simp [leVs, leP, leE, leL, leC], rfl, trivial, by simp [leVs, leP, leE, leL, leC], rfl, trivial, .refl _, leP_refl _⟩
def writeR (e : En) (M : Mo) (k : Int) (l : List Cel) : Int × Mo :=
  if mayL l = false then (1, M) else match M.get k with
    | none => (5, M)
    | some v => ((vwrR v.W l e.writes).2, keepR M k ⟨v.q, v.R, (vwrR v.W l e.writes).1⟩ (vwrR v.W l e.writes).2)
theorem eWrite_ok {e : En} {s : St} {M : Mo} {k : Int} {l : List Cel} (hl : l.length ≤ 1000000) (hv : ∀ v, M.get k = some v → VwOk v) : FnOk Try.prog 20 [vC (.ptr 0 0), vI .i64 k, vCl l] (eO e s M) (vI .i64 (writeR e M k l).1) (eO e s (writeR e M k l).2) := by
  have hg := M.get_eq k
  have hm := may_ok (l := l) (by omega)
  unfold writeR
  cases hb : mayL l with
  | false =>
    rw [hb] at hm
    rw [if_pos rfl]
    refine FnOk.tree t20 (.f [] hm (.a (.call [0, 1, 2, 3] [] .u []) .nil)) rfl rfl rfl rfl ?_
    exact ⟨trivial, by simp [leVs, leP, leE, leL, leC], trivial, .refl _, leP_refl _⟩
  | true =>
    rw [hb] at hm
    rw [if_neg (by simp)]
    cases h : M.get k with
    | none =>
      rw [h] at hg
      refine FnOk.tree t20 (.f [] hm (.a (.mp none) (.a (.call [0, 1, 2, 3] [] .u []) .nil))) rfl rfl rfl rfl ?_
      exact ⟨trivial, by simp [leVs, leP, leE, leL, leC], hg, trivial, .refl _, leP_refl _⟩
    | some v =>
      have hok := hv v h
      obtain ⟨q, R, W⟩ := v
      rw [h] at hg
      have hvr := vwrite_ok (q := q) (R := R) (W := W) (l := l) (most := e.writes) hok.R hok.W hl
      simp only
      generalize vwrR W l e.writes = r at *
      obtain ⟨W', err⟩ := r
      have hk := keep_ok (e := e) (s := s) (M := M) (k := k) (err := err) (q := q) (R := R) (W := W')
      refine FnOk.tree t20 (.f [] hm (.a (.mp (some [.int .u64 q, lSp R, lCl W])) (.f [] hvr (.o [0, 1, 2, 3] [] hk (.a (.call [0, 1, 2, 3] [] .u []) .nil))))) rfl rfl rfl rfl ?_
      exact ⟨trivial, by simp [leVs, leP, leE, leL, leC], ⟨hg, rfl⟩, trivial, by simp [leVs, leP, leE, leL, leC], trivial, by simp [leVs, leP, leE, leL, leC], rfl, trivial, .refl _, leP_refl _⟩
def comR (s : St) (M : Mo) (k : Int) : Int × Int × St × Mo := match M.get k with
  | none => (0, 5, s, M)
  | some v => if v.W.length = 0 then (v.q, 0, s, M.del k) else if (clashS s.L v.q v.R).isSome then (0, 7, s, M.del k) else ((instR s v.W).1, (instR s v.W).2.1, (instR s v.W).2.2, M.del k)
structure StGo (s : St) : Prop where
  len : s.L.length ≤ 100000000
  ch : ChOk 100000000 s.L
  last : 0 ≤ s.last ∧ s.last ≤ 18446744073709551615
  n : 0 ≤ s.n ∧ s.n ≤ 100000000
  most : 0 ≤ s.most ∧ s.most ≤ 100000000
theorem StGo.ok {s : St} (h : StGo s) : StOk s := ⟨by have := h.len; omega, fun e he => by have := h.ch e he; omega⟩
theorem commit_ok {e : En} {s : St} {M : Mo} {k : Int} (hs : StGo s) (hv : ∀ v, M.get k = some v → VwOk v) : FnOk Try.prog 22 [vC (.ptr 0 0), vI .i64 k] (eO e s M) (vPair (comR s M k).1 (comR s M k).2.1) (eO e (comR s M k).2.2.1 (comR s M k).2.2.2) := by
  have hg := M.get_eq k
  unfold comR
  cases h : M.get k with
  | none =>
    rw [h] at hg
    refine FnOk.tree t22 (.a (.mp none) (.a (.call [0, 1, 2, 3] [] .u []) .nil)) rfl rfl rfl rfl ?_
    exact ⟨hg, trivial, .refl _, leP_refl _⟩
  | some v =>
    have hok := hv v h
    obtain ⟨q, R, W⟩ := v
    rw [h] at hg
    simp only
    by_cases hw : W.length = 0
    · rw [if_pos hw]
      refine FnOk.tree t22 (.a (.mp (some [.int .u64 q, lSp R, lCl W])) (.a (.b 30 true) (.a (.call [0, 1, 2, 3] [] .u []) .nil))) rfl rfl rfl rfl ?_
      refine ⟨⟨hg, rfl⟩, trivial, trivial, by simp [hw], trivial, .of ?_, leP_refl _⟩
      rw [eO_del]
    · rw [if_neg hw]
      have hf := fresh_ok hs.ok (R := R) (q := q) (by have := hok.R; simp at this; omega) hok.rs
      cases hc : (clashS s.L q R).isSome with
      | true =>
        rw [hc] at hf
        rw [if_pos rfl]
        refine FnOk.tree t22 (.a (.mp (some [.int .u64 q, lSp R, lCl W])) (.a (.b 30 false) (.o [1, 2] [] hf (.a (.call [0, 1, 2, 3] [] .u []) .nil)))) rfl rfl rfl rfl ?_
        refine ⟨⟨hg, rfl⟩, trivial, trivial, by simpa using hw, trivial, by simp [leVs, leP, leE, leL, leC], rfl, trivial, .of ?_, leP_refl _⟩
        rw [eO_del]
      | false =>
        rw [hc] at hf
        rw [if_neg (by simp)]
        have hi := inst_ok hs.len hs.ch hs.last hs.n hs.most (l := W) (by have := hok.W; simp at this; omega)
        generalize instR s W = r at *
        obtain ⟨a, b, s'⟩ := r
        refine FnOk.tree t22 (.a (.mp (some [.int .u64 q, lSp R, lCl W])) (.a (.b 30 false) (.o [1, 2] [] hf (.a (.call [1, 2] [] (vPair a b) [stB s' 1, stM s']) (.a (.call [0, 1, 2, 3] [] .u []) .nil))))) rfl rfl rfl rfl ?_
        refine ⟨⟨hg, rfl⟩, trivial, trivial, by simpa using hw, trivial, by simp [leVs, leP, leE, leL, leC], rfl, trivial, hi, trivial, .of ?_, leP_refl _⟩
        rw [eO_del]
end Go.Proofs.Ytpnbncdclgmegaa
