/-
  Chapter 22: the book's functions but Tick: the program's (a map) and the document's (a list).
-/
import Derived.Test.YthddlkhfkncgpaaGreatT0
set_option maxRecDepth 100000
set_option maxHeartbeats 1000000
set_option linter.unusedVariables false
set_option linter.unusedSimpArgs false
namespace Go.Proofs.YthddlkhfkncgpaaGreat
open Go.RowKit

/-- How many ticks a lease has. -/
def capT (t : Int) : Int := if (if t < 1 then 1 else t) > 65535 then 65535 else (if t < 1 then 1 else t)
theorem capT_rng (t : Int) : 1 ≤ capT t ∧ capT t ≤ 65535 := by unfold capT; split <;> split <;> omega
abbrev bkO (t : Int) : Ob := .box [.t (.int .i64 t), .mp 1]
theorem lNew_ok {t : Int} : FnOk Tryz.prog 121 [vI .i64 t] [] (vC (.ptr 0 0)) [bkO (capT t), .mp false ⟨0, []⟩] := by
  refine FnOk.tree t121 (.a (.call [1, 0] [] .u []) .nil) rfl rfl rfl rfl ?_
  simp [leVs, leP, leE, leC, capT]
  exact LeOs.of rfl
/-- The program's book: stamps, owners, what is left. -/
structure Bk where
  ck : Nat
  es : List (Nat × Int × Int)
def mpE (e : Nat × Int × Int) : Nat × Int × List D := (e.1, e.2.1, [.int .i64 e.2.2])
def Bk.mp (b : Bk) : Mp := ⟨b.ck, b.es.map mpE⟩
def Bk.at (b : Bk) (k : Int) : Nat := b.es.findIdx fun e => e.2.1 == k
def Bk.get (b : Bk) (k : Int) : Option Int := (b.es[b.at k]?).map (·.2.2)
def Bk.set (b : Bk) (k n : Int) : Bk := if b.at k < b.es.length then ⟨b.ck, b.es.modify (b.at k) fun e => (e.1, e.2.1, n)⟩ else ⟨b.ck + 1, b.es ++ [(b.ck, k, n)]⟩
def Bk.del (b : Bk) (k : Int) : Bk := ⟨b.ck, b.es.eraseIdx (b.at k)⟩
theorem Bk.at_eq (b : Bk) (k : Int) : b.mp.at k = b.at k := by
  unfold Mp.at Bk.at Bk.mp
  rw [List.findIdx_map]
  rfl
theorem Bk.get_eq (b : Bk) (k : Int) : b.mp.get k = (b.get k).map fun n => [.int .i64 n] := by
  unfold Mp.get Bk.get
  rw [Bk.at_eq]
  simp [Bk.mp, mpE]
  cases b.es[b.at k]? <;> rfl
theorem Bk.set_eq (b : Bk) (k n : Int) : b.mp.set k [.int .i64 n] = (b.set k n).mp := by
  unfold Mp.set Bk.set
  rw [Bk.at_eq]
  have : b.mp.es.length = b.es.length := by simp [Bk.mp]
  rw [this]
  split
  · simp only [Bk.mp, Mp.mk.injEq, true_and]
    apply List.ext_getElem?
    intro i
    simp [List.getElem?_modify]
    cases b.es[i]? with
    | none => rfl
    | some e => by_cases h : b.at k = i <;> simp [h, mpE]
  · simp [Bk.mp, mpE]
theorem Bk.del_eq (b : Bk) (k : Int) : b.mp.del k = (b.del k).mp := by
  unfold Mp.del Bk.del
  rw [Bk.at_eq]
  simp only [Bk.mp, Mp.mk.injEq, true_and]
  apply List.ext_getElem?
  intro i
  simp [List.getElem?_eraseIdx]
  split <;> rfl
abbrev bkM (b : Bk) : Ob := .mp false b.mp
theorem hear_ok {t k : Int} {b : Bk} : FnOk Tryz.prog 158 [vC (.ptr 0 0), vI .i64 k] [bkO t, bkM b] (.tup []) [bkO t, bkM (b.set k t)] := by
  refine FnOk.tree t158 (.a (.call [0, 1] [] .u []) .nil) rfl rfl rfl rfl ?_
  have e := b.set_eq k t
  exact ⟨trivial, trivial, LeOs.of (by rw [e]), trivial⟩
theorem drop_ok {t k : Int} {b : Bk} : FnOk Tryz.prog 138 [vC (.ptr 0 0), vI .i64 k] [bkO t, bkM b] (vB (b.get k).isSome) [bkO t, bkM (b.del k)] := by
  have e := b.del_eq k
  have hg := b.get_eq k
  cases h : b.get k with
  | some n =>
    rw [h] at hg
    refine FnOk.tree t138 (.a (.mp (some [.int .i64 n])) (.a (.call [0, 1] [] .u []) .nil)) rfl rfl rfl rfl ?_
    exact ⟨⟨hg, rfl⟩, trivial, trivial, LeOs.of (by rw [e]), by simp [leP, leE, leC]⟩
  | none =>
    rw [h] at hg
    refine FnOk.tree t138 (.a (.mp none) (.a (.call [0, 1] [] .u []) .nil)) rfl rfl rfl rfl ?_
    exact ⟨hg, trivial, trivial, LeOs.of (by rw [e]), by simp [leP, leE, leC]⟩
end Go.Proofs.YthddlkhfkncgpaaGreat
