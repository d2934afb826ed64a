/-
  The document's plain registers: File's Get and Set, Lay, what a request writes, what is shown.
-/
import Derived.Test.YthddlkhfkncgpaaGreatC1a
import Derived.Test.YthddlkhfkncgpaaGreatAf6
import Derived.Test.YthddlkhfkncgpaaGreatM20
import Derived.Test.YthddlkhfkncgpaaGreatM46
set_option maxRecDepth 100000
set_option maxHeartbeats 1000000
set_option linter.unusedVariables false
set_option linter.unusedSimpArgs false
namespace Go.Proofs.YthddlkhfkncgpaaGreat
open Go.RowKit

abbrev oFl (l : List Cel) : Ob := .box [.t (lCl l)]
theorem fGet_ok {l : List Cel} (hl : l.length ≤ 1000000000) {t a : Int} : FnOk Tryz.prog 95 [vC (.ptr 0 0), vK t a] [oFl l] (vI .u16 (getL l t a).1) [oFl l] := by
  have hg := get16_ok hl (t := t) (a := a)
  refine FnOk.tree t95 (.f [] hg (.a (.call [0] [] .u []) .nil)) rfl rfl rfl rfl ?_
  simp [leVs, leP, leE, leL, leC]
  exact .refl _
def CelQ (c : Cel) : Prop := 0 ≤ c.1 ∧ c.1 ≤ 3 ∧ 0 ≤ c.2.1 ∧ c.2.1 < 65536
def setL (l cs : List Cel) : List Cel := cs.foldl putL l
theorem setL_succ {l cs : List Cel} {n : Nat} (h : n < cs.length) : setL l (cs.take (n + 1)) = putL (setL l (cs.take n)) cs[n] := by
  unfold setL
  rw [← List.take_append_getElem h, List.foldl_append]
  rfl
theorem setL_len (cs : List Cel) : ∀ l : List Cel, (setL l cs).length ≤ l.length + cs.length := by
  induction cs with
  | nil => intro l; simp [setL]
  | cons c cs ih =>
    intro l
    have h1 := ih (putL l c)
    have h2 := putL_len l c
    simp only [setL, List.foldl_cons, List.length_cons] at *
    omega
theorem fSet_ok {l cs : List Cel} (hl : l.length + cs.length ≤ 1000000000) (hc : ∀ c ∈ cs, CelQ c) : FnOk Tryz.prog 94 [vC (.ptr 0 0), vCl cs] [oFl l] (.tup []) [oFl (setL l cs)] := by
  refine FnOk.start t94 rfl rfl rfl ?_
  refine Tri.seq (Tri.go [] rfl trivial ?_)
  refine Tri.block ?_
  refine Tri.lp (fun q ρ hl => ∃ i, q = cs.length - i ∧ i ≤ cs.length ∧ hl = [oFl (setL l (cs.take i))] ∧ keepE ρ [0, 1, 4] = some [(0, vC (.ptr 0 0)), (1, vCl cs), (4, vI .i64 i)]) cs.length ⟨0, by omega, by omega, rfl, keep_of rfl rfl⟩ ?_
  rintro q ρ hl' ⟨i, rfl, hi, rfl, hkk⟩
  refine Tri.keep _ hkk ?_
  by_cases h : i < cs.length
  · have hg := rwC_get h
    have hs := setL_succ (l := l) h
    have hln := setL_len (cs.take i) l
    rw [List.length_take, Nat.min_eq_left hi] at hln
    have hp := put16_ok (l := setL l (cs.take i)) (by omega) (c := cs[i])
    rw [← hs] at hp
    have hco := hc _ (List.getElem_mem h)
    generalize cs[i] = c at *
    obtain ⟨c1, c2, c3, c4⟩ := hco
    refine Tri.seq (Tri.go [.b 9 true] rfl ⟨decide_eq_true (by omega), trivial⟩ ?_)
    refine Tri.seq (Tri.block (Tri.seq (Tri.tree (.a (.at [.int .i64 c.1, .int .i64 c.2.1, .int .u16 c.2.2]) .nil) rfl ⟨⟨by omega, rfl, hg⟩, by simp, ?_⟩)))
    refine Tri.seq (Tri.go [.b 20 true, .b 25 true, .b 30 true] rfl ⟨by simpa using c1, by simpa using c2, by simpa using c3, trivial⟩ ?_)
    refine Tri.tree (.a (.b 34 true) (.a (.at [.int .i64 c.1, .int .i64 c.2.1, .int .u16 c.2.2]) (.f [] hp .nil))) rfl ⟨by simpa using c4, ⟨by omega, rfl, hg⟩, by simp, trivial, by simp [leVs, leP, leE, leL, leC], ?_⟩
    refine Tri.let [0] [] [0, 1, 4] rfl trivial ?_
    exact Tri.go [] rfl ⟨by omega, trivial⟩ (again (cs.length - (i + 1)) (by omega) ⟨i + 1, rfl, by omega, rfl, keep_of rfl (by simp)⟩)
  · have he : i = cs.length := by omega
    subst he
    rw [List.take_length]
    refine Tri.go [.b 9 false] rfl ⟨decide_eq_false (by omega), trivial⟩ (outQ ?_)
    exact RetQ.ends rfl (RetQ.le [0] [] rfl trivial (.refl _) (.refl _))
def layL (t a : Int) (ws : List Int) (n : Nat) : List Cel := (List.range n).map fun i : Nat => (t, a + i, ws.getD i 0)
theorem layL_len (t a : Int) (ws : List Int) (n : Nat) : (layL t a ws n).length = n := by simp [layL]
theorem layL_succ (t a : Int) (ws : List Int) (n : Nat) : layL t a ws (n + 1) = layL t a ws n ++ [(t, a + n, ws.getD n 0)] := by simp [layL, List.range_succ]
theorem lay_ok {t a : Int} {ws : List Int} (ha : 0 ≤ a ∧ a ≤ 1000000000) (hw : ws.length ≤ 1000000000) : FnOk Tryz.prog 55 [vK t a, vWd ws] [] (vCl (layL t a ws ws.length)) [] := by
  refine FnOk.start t55 rfl rfl rfl ?_
  refine Tri.seq (Tri.go [] rfl trivial ?_)
  refine Tri.seq (Tri.go [] rfl trivial ?_)
  refine Tri.seq (Tri.seq (Tri.go [] rfl trivial ?_))
  refine Tri.block ?_
  refine Tri.own 5 3 (by omega) rfl ?_
  refine Tri.lp (fun q ρ hl => ∃ i, q = ws.length - i ∧ i ≤ ws.length ∧ hl = [.box [.t (.int .i64 t), .t (.int .i64 a)], .arr 3 (rwC (layL t a ws i))] ∧ keepE ρ [1, 2, 5, 6] = some [(1, vWd ws), (2, vC (.ptr 0 0)), (5, vC (.sl 1 0 i)), (6, vI .i64 i)]) ws.length ⟨0, by omega, by omega, rfl, keep_of rfl rfl⟩ ?_
  rintro q ρ hl' ⟨i, rfl, hi, rfl, hkk⟩
  refine Tri.keep _ hkk ?_
  by_cases h : i < ws.length
  · have hg := rI_get (k := .u16) h
    have hll := layL_len t a ws i
    refine Tri.seq (Tri.go [.b 10 true] rfl ⟨decide_eq_true (by omega), trivial⟩ ?_)
    refine Tri.seq (Tri.block (Tri.tree (.a (.at [.int .u16 (ws.getD i 0)]) .nil) rfl ⟨by omega, ⟨by omega, rfl, by simpa using hg⟩, ⟨⟨rfl, by simp⟩, trivial⟩, ⟨.inr rfl, rfl, by simp [hll], by simp, by omega, by omega⟩, ?_⟩))
    refine Tri.let [0, 2] [] [1, 2, 5, 6] rfl trivial ?_
    refine Tri.go [] rfl ⟨by omega, trivial⟩ (again (ws.length - (i + 1)) (by omega) ⟨i + 1, rfl, by omega, ?_, keep_of rfl (by simp)⟩)
    rw [layL_succ, ← rwC_app]
    rfl
  · have he : i = ws.length := by omega
    subst he
    refine Tri.go [.b 10 false] rfl ⟨decide_eq_false (by omega), trivial⟩ (outQ ?_)
    refine Tri.treeR (.a (.call [] [1] .u []) .nil) rfl ?_
    simp [leP, leE, leC, layL_len, List.take_of_length_le]
    exact .nil
def rightS (s : Spn) : Bool := decide (0 ≤ s.1) && decide (s.1 ≤ 3) && decide (0 ≤ s.2.1) && decide (s.2.2 ≤ 65536) && decide (s.2.1 < s.2.2)
theorem right12_ok {s : Spn} : FnOk Tryz.prog 93 [.e (.agg [.t (.int .i64 s.1), .t (.int .i64 s.2.1), .t (.int .i64 s.2.2)])] [] (vB (rightS s)) [] := by
  by_cases h1 : 0 ≤ s.1
  · by_cases h2 : s.1 ≤ 3
    · by_cases h3 : 0 ≤ s.2.1
      · by_cases h4 : s.2.2 ≤ 65536
        · refine FnOk.tree t93 (.a (.b 6 true) (.a (.b 11 true) (.a (.b 16 true) (.a (.b 21 true) .nil)))) rfl rfl rfl rfl (by simp [leP, leE, leC, rightS, h1, h2, h3, h4])
        · refine FnOk.tree t93 (.a (.b 6 true) (.a (.b 11 true) (.a (.b 16 true) (.a (.b 21 false) .nil)))) rfl rfl rfl rfl (by simp [leP, leE, leC, rightS, h1, h2, h3, h4])
      · refine FnOk.tree t93 (.a (.b 6 true) (.a (.b 11 true) (.a (.b 16 false) (.a (.b 21 false) .nil)))) rfl rfl rfl rfl (by simp [leP, leE, leC, rightS, h1, h2, h3])
    · refine FnOk.tree t93 (.a (.b 6 true) (.a (.b 11 false) (.a (.b 16 false) (.a (.b 21 false) .nil)))) rfl rfl rfl rfl (by simp [leP, leE, leC, rightS, h1, h2])
  · refine FnOk.tree t93 (.a (.b 6 false) (.a (.b 11 false) (.a (.b 16 false) (.a (.b 21 false) .nil)))) rfl rfl rfl rfl (by simp [leP, leE, leC, rightS, h1])
abbrev tB (fn : Int) (b : C) : List C := [.t (.int .i64 fn), .t (.int .i64 0), b, .t .nil, .t (.int .i64 0), .t (.int .i64 0), .t (.int .u16 0), .t (.int .u16 0), .t (.int .u16 0), .t (.int .i64 0), .t (.int .i64 0), .t (.bool false), .t (.int .i64 0), .t .nil]
def nzL (ws : List Int) : List Bool := ws.map fun w => w != 0
theorem nzL_len (ws : List Int) : (nzL ws).length = ws.length := by simp [nzL]
def shownT (a : Ask) (ws : List Int) : Tell := if a.fn = 1 ∨ a.fn = 2 then { fn := a.fn, bits := nzL ws } else { fn := a.fn, words := ws }
theorem shown_ok {a : Ask} {ws : List Int} (hw : ws.length ≤ 1000000000) : FnOk Tryz.prog 96 [a.v, vWd ws] [] (shownT a ws).v [] := by
  by_cases h : a.fn = 1 ∨ a.fn = 2
  · refine FnOk.start t96 rfl rfl rfl ?_
    refine Tri.seq (Tri.go [] rfl trivial ?_)
    refine Tri.seq (Tri.go [] rfl trivial ?_)
    refine Tri.mid (fun ρ hl => hl = [.box a.cs, .box tzC, .box (tB a.fn (.t .nil))] ∧ keepE ρ [1, 4, 5] = some [(1, vWd ws), (4, vC (.ptr 1 0)), (5, vC (.ptr 2 0))]) ?_ ?_
    · by_cases h1 : a.fn = 1
      · exact Tri.tree (.a (.b 13 false) (.a (.b 17 false) .nil)) rfl ⟨by simp [h1], by simp, rfl, keep_of rfl rfl⟩
      · exact Tri.tree (.a (.b 13 true) (.a (.b 17 false) .nil)) rfl ⟨by simp [h1], by simp; omega, rfl, keep_of rfl rfl⟩
    rintro ρ hl' ⟨rfl, hkk⟩
    refine Tri.keep _ hkk ?_
    have e : shownT a ws = { fn := a.fn, bits := nzL ws } := by rw [shownT, if_pos h]
    rw [e]
    refine Tri.mid (fun ρ hl => ((ws = [] ∧ hl = [.box a.cs, .box tzC, .box (tB a.fn (.t .nil))]) ∨ (0 < ws.length ∧ hl = [.box a.cs, .box tzC, .box (tB a.fn (.sl 3 0 ws.length)), .arr 1 (rF (nzL ws))])) ∧ keepE ρ [4, 5] = some [(4, vC (.ptr 1 0)), (5, vC (.ptr 2 0))]) ?_ ?_
    · refine Tri.seq (Tri.go [] rfl trivial ?_)
      refine Tri.block ?_
      refine Tri.lp (fun q ρ hl => ∃ i, q = ws.length - i ∧ i ≤ ws.length ∧ ((i = 0 ∧ hl = [.box a.cs, .box tzC, .box (tB a.fn (.t .nil))]) ∨ (0 < i ∧ hl = [.box a.cs, .box tzC, .box (tB a.fn (.sl 3 0 i)), .arr 1 (rF (nzL (ws.take i)))])) ∧
        keepE ρ [1, 4, 5, 6] = some [(1, vWd ws), (4, vC (.ptr 1 0)), (5, vC (.ptr 2 0)), (6, vI .i64 i)]) ws.length ⟨0, by omega, by omega, .inl ⟨rfl, rfl⟩, keep_of rfl rfl⟩ ?_
      rintro q ρ hl' ⟨i, rfl, hi, hh, hkk⟩
      refine Tri.keep _ hkk ?_
      by_cases h2 : i < ws.length
      · have hg := rI_get (k := .u16) h2
        have hll : (nzL (ws.take i)).length = i := by rw [nzL_len]; simp; omega
        have hts : nzL (ws.take (i + 1)) = nzL (ws.take i) ++ [ws.getD i 0 != 0] := by
          rw [← List.take_append_getElem h2, nzL, List.map_append]
          simp [nzL, List.getD_eq_getElem?_getD, h2]
        rcases hh with ⟨rfl, rfl⟩ | ⟨hp, rfl⟩
        · refine Tri.seq (Tri.go [.b 25 true] rfl ⟨decide_eq_true (by omega), trivial⟩ ?_)
          refine Tri.seq (Tri.block (Tri.tree (.a (.at [.int .u16 (ws.getD 0 0)]) .nil) rfl ⟨⟨by omega, rfl, by simpa using hg⟩, ⟨⟨rfl, by simp⟩, trivial⟩, ⟨.inr rfl, by simp, by simp, by simp⟩, ?_⟩))
          refine Tri.go [] rfl ⟨by omega, trivial⟩ (again (ws.length - (0 + 1)) (by omega) ⟨0 + 1, rfl, by omega, .inr ⟨by omega, ?_⟩, keep_of rfl (by simp)⟩)
          rw [hts]
          simp [nzL, rF]
        · refine Tri.seq (Tri.go [.b 25 true] rfl ⟨decide_eq_true (by omega), trivial⟩ ?_)
          refine Tri.seq (Tri.block (Tri.tree (.a (.at [.int .u16 (ws.getD i 0)]) .nil) rfl ⟨⟨by omega, rfl, by simpa using hg⟩, ⟨⟨rfl, by simp⟩, trivial⟩, ⟨.inr rfl, rfl, by simp [hll], by simp, by omega, by omega⟩, ?_⟩))
          refine Tri.let [0, 1, 2, 4] [] [1, 4, 5, 6] rfl trivial ?_
          refine Tri.go [] rfl ⟨by omega, trivial⟩ (again (ws.length - (i + 1)) (by omega) ⟨i + 1, rfl, by omega, .inr ⟨by omega, ?_⟩, keep_of rfl (by simp)⟩)
          rw [hts]
          simp [rF]
      · have : i = ws.length := by omega
        subst this
        rw [List.take_length] at hh
        rcases hh with ⟨hz, rfl⟩ | ⟨hp, rfl⟩
        · exact Tri.go [.b 25 false] rfl ⟨decide_eq_false (by omega), trivial⟩ (outQ ⟨.inl ⟨List.length_eq_zero_iff.1 hz, rfl⟩, keep_of rfl rfl⟩)
        · exact Tri.go [.b 25 false] rfl ⟨decide_eq_false (by omega), trivial⟩ (outQ ⟨.inr ⟨hp, rfl⟩, keep_of rfl rfl⟩)
    rintro ρ hl' ⟨hh, hkk⟩
    refine Tri.keep _ hkk ?_
    rcases hh with ⟨rfl, rfl⟩ | ⟨hp, rfl⟩
    · refine Tri.treeR (.a (.call [] [] .u []) .nil) rfl ?_
      simp [leP, leE, leL, leC, nzL]
      exact .nil
    · refine Tri.treeR (.a (.call [] [3] .u []) .nil) rfl ?_
      simp [leP, leE, leL, leC, nzL_len, List.take_of_length_le]
      exact .nil
  · have h1 : a.fn ≠ 1 := fun e => h (.inl e)
    have h2 : a.fn ≠ 2 := fun e => h (.inr e)
    refine FnOk.tree t96 (.a (.b 13 true) (.a (.b 17 true) (.a (.call [] [3] .u []) .nil))) rfl rfl rfl rfl ?_
    rw [shownT, if_neg h]
    simp [leP, leE, leL, leC, h1, h2, List.take_of_length_le]
    exact ⟨by omega, .nil⟩
end Go.Proofs.YthddlkhfkncgpaaGreat
