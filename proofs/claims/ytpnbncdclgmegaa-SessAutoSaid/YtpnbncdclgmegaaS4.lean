/-
  Sessions: Tick; made; the chapter's example.
-/
import Derived.Test.YtpnbncdclgmegaaS3
import Derived.Test.YtpnbncdclgmegaaT15
set_option maxRecDepth 100000
set_option maxHeartbeats 1000000
set_option linter.unusedVariables false
set_option linter.unusedSimpArgs false
namespace Go.Proofs.Ytpnbncdclgmegaa
open Go.RowKit

def overR (x : Ss) (c : Int) : Ss := turnR { x with M := x.M.del c } c 2 3 0
def oversR (x : Ss) (l : List Int) : Ss := l.foldl overR x
theorem oversR_succ {x : Ss} {l : List Int} {i : Nat} (h : i < l.length) : oversR x (l.take (i + 1)) = overR (oversR x (l.take i)) l[i] := by
  unfold oversR
  rw [← List.take_append_getElem h, List.foldl_append]
  rfl
def stickR (x : Ss) : List Int × Ss := (srt x.b.out, oversR { x with b := x.b.tick } (srt x.b.out))
theorem ssTick_ok {x : Ss} (hw : x.b.Wf) (hl : x.b.es.length ≤ 12) : FnOk Try.prog 44 [vC (.ptr 0 0)] (ssO x) (lN (stickR x).1) (ssO (stickR x).2) := by
  have ht := tick_ok (t := x.t) hw hl
  unfold stickR
  refine FnOk.start t44 rfl rfl rfl ?_
  refine Tri.seq (Tri.go [] rfl trivial ?_)
  refine Tri.seq (Tri.tree (.o [5, 6] [] ht .nil) rfl ⟨trivial, by simp [leVs, leP, leE, leL, leC], rfl, ?_⟩)
  have hO : (srt x.b.out).length ≤ 12 := by
    rw [srt_len]
    have := List.length_filter_le (fun e : Nat × Int × Int => decide (e.2.2 ≤ 1)) x.b.es
    unfold Bk.out
    rw [List.length_map]
    omega
  simp only
  generalize srt x.b.out = O at *
  refine Tri.mid (fun ρ hl => hl = ssO (oversR { x with b := x.b.tick } O) ∧ keepE ρ [3] = some [(3, lN O)]) ?_ ?_
  · refine Tri.seq (Tri.go [] rfl trivial ?_)
    refine Tri.block ?_
    refine Tri.lp (fun z ρ hl => ∃ i, z = O.length - i ∧ i ≤ O.length ∧ hl = ssO (oversR { x with b := x.b.tick } (O.take i)) ∧
      keepE ρ [0, 3, 11, 12, 13] = some [(0, vC (.ptr 0 0)), (3, lN O), (11, lN O), (12, vI .i64 O.length), (13, vI .i64 i)]) O.length ⟨0, by omega, by omega, rfl, keep_of rfl rfl⟩ ?_
    rintro z ρ hl' ⟨i, rfl, hi, rfl, hkk⟩
    refine Tri.keep _ hkk ?_
    by_cases h : i < O.length
    · have hg : (rI .i64 O)[i]? = some [.int .i64 O[i]] := by simp [rI, h]
      have hsx := oversR_succ (x := { x with b := x.b.tick }) h
      generalize O[i] = c at *
      generalize oversR { x with b := x.b.tick } (O.take i) = y at *
      have ha := abort_ok (e := y.e) (s := y.s) (M := y.M) (k := c)
      have htn := turn_ok (x := { y with M := y.M.del c }) (c := c) (st := 2) (re := 3) (q := 0)
      refine Tri.seq (Tri.go [] rfl trivial (Tri.seq (Tri.go [.b 14 true] rfl ⟨decide_eq_true (by omega), trivial⟩ ?_)))
      refine Tri.seq (Tri.block (Tri.seq (Tri.tree (.a (.at [.int .i64 c]) .nil) rfl ⟨⟨by omega, rfl, hg⟩, ?_⟩)))
      refine Tri.seq (Tri.tree (.o [1, 2, 3, 4] [] ha .nil) rfl ⟨trivial, by simp [leVs, leP, leE, leL, leC], rfl, ?_⟩)
      refine Tri.tree (.o [0, 1, 2, 3, 4, 5, 6, 7] [] htn .nil) rfl ⟨trivial, by simp [leVs, leP, leE, leL, leC], rfl, ?_⟩
      exact Tri.go [] rfl ⟨by omega, trivial⟩ (again (O.length - (i + 1)) (by omega) ⟨i + 1, rfl, by omega, by rw [hsx]; rfl, keep_of rfl (by simp)⟩)
    · have : i = O.length := by omega
      subst this
      rw [List.take_length]
      exact Tri.seq (Tri.go [] rfl trivial (Tri.seq (Tri.go [.b 14 false] rfl ⟨decide_eq_false (by omega), trivial⟩ (And.intro rfl (keep_of rfl rfl)))))
  rintro ρ hl' ⟨rfl, hkk⟩
  refine Tri.keep _ hkk ?_
  exact Tri.treeR (.a (.call [0, 1, 2, 3, 4, 5, 6, 7] [] .u []) .nil) rfl ⟨trivial, .refl _, leP_refl _⟩
def ss0 (a b c r t : Int) : Ss := ⟨capT t, ⟨max a 0, max b 0, max c 0⟩, newSt 0 r, ⟨0, []⟩, ⟨0, []⟩, ⟨0, []⟩⟩
theorem made24_ok {a b c r t : Int} : FnOk Try.prog 31 [vI .i64 a, vI .i64 b, vI .i64 c, vI .i64 r, vI .i64 t] [] (vC (.ptr 0 0)) (ssO (ss0 a b c r t)) := by
  have h1 := sNew_ok (a := 0) (m := r)
  have h2 := eNew_ok (s := newSt 0 r) (a := a) (b := b) (c := c)
  have h3 := ssNew_ok (e := ⟨max a 0, max b 0, max c 0⟩) (s := newSt 0 r) (M := ⟨0, []⟩) (t := t)
  have h4 := sEngine_ok (x := ss0 a b c r t)
  refine FnOk.tree t31 (.o [] [] h1 (.o [0, 1] [] h2 (.o [2, 0, 1, 3] [] h3 (.o [4, 2, 0, 1, 3, 5, 6, 7] [] h4 (.a (.b 35 false) (.a (.call [4, 2, 0, 1, 3, 5, 6, 7] [] .u []) .nil)))))) rfl rfl rfl rfl ?_
  repeat' apply And.intro
  all_goals first | trivial | rfl | exact .refl _ | exact leP_refl _ | (simp [leVs, leP, leE, leEs, leL, leC, rI]; done)
theorem sO_begin {x y : Ss} {c r : Int} (h : beginR x c = (r, y)) : FnOk Try.prog 39 [vC (.ptr 0 0), vI .i64 c] (ssO x) (vI .i64 r) (ssO y) := by
  have := ssBegin_ok (x := x) (c := c)
  rw [h] at this
  exact this
theorem sO_tick {x y : Ss} {l : List Int} (hw : x.b.Wf) (hl : x.b.es.length ≤ 12) (h : stickR x = (l, y)) : FnOk Try.prog 44 [vC (.ptr 0 0)] (ssO x) (lN l) (ssO y) := by
  have := ssTick_ok hw hl
  rw [h] at this
  exact this
theorem sO_state {x : Ss} {c : Int} {v : Ses} (h : stG x.A c = v) : FnOk Try.prog 38 [vC (.ptr 0 0), vI .i64 c] (ssO x) (vSt v.st v.re x.t v.q) (ssO x) := by
  have := state_ok (x := x) (c := c)
  rw [h] at this
  exact this
theorem bkWf_one {k n c : Int} {s ck : Nat} (h : s < ck) (hn : 1 ≤ n ∧ n ≤ 65535) : (⟨ck, [(s, k, n)]⟩ : Bk).Wf := ⟨by simp, by simp, fun e he => by simp at he; subst he; exact h, fun e he => by simp at he; subst he; exact hn⟩
theorem bkWf_nil {ck : Nat} : (⟨ck, []⟩ : Bk).Wf := ⟨by simp, by simp, by simp, by simp⟩
theorem awake24_ok : FnOk Try.prog 30 [] [] (vB true) [] := by
  have h1 := made24_ok (a := 4) (b := 20) (c := 20) (r := 100) (t := 1)
  have h2 := sO_begin (x := ss0 4 20 20 100 1) (y := ⟨1, ⟨4, 20, 20⟩, ⟨0, 0, 100, []⟩, ⟨1, [(0, 3, ⟨0, [], []⟩)]⟩, ⟨1, [(0, 3, 1)]⟩, ⟨1, [(0, 3, ⟨1, 0, 0, 0⟩)]⟩⟩) (c := 3) (r := 0) rfl
  have h3 := sO_tick (x := ⟨1, ⟨4, 20, 20⟩, ⟨0, 0, 100, []⟩, ⟨1, [(0, 3, ⟨0, [], []⟩)]⟩, ⟨1, [(0, 3, 1)]⟩, ⟨1, [(0, 3, ⟨1, 0, 0, 0⟩)]⟩⟩) (y := ⟨1, ⟨4, 20, 20⟩, ⟨0, 0, 100, []⟩, ⟨1, []⟩, ⟨1, []⟩, ⟨1, [(0, 3, ⟨2, 3, 0, 0⟩)]⟩⟩) (l := [3]) (bkWf_one (c := 0) (by omega) (by omega)) (by simp) rfl
  have h4 := sO_state (x := ⟨1, ⟨4, 20, 20⟩, ⟨0, 0, 100, []⟩, ⟨1, []⟩, ⟨1, []⟩, ⟨1, [(0, 3, ⟨2, 3, 0, 0⟩)]⟩⟩) (c := 3) (v := ⟨2, 3, 0, 0⟩) rfl
  refine FnOk.tree t30 (.o [] [] h1 (.o [0, 1, 2, 3, 4, 5, 6, 7] [] h2 (.a (.b 11 false) (.o [0, 1, 2, 3, 4, 5, 6, 7] [] h3 (.o [0, 1, 2, 3, 4, 5, 6, 7] [] h4 (.a (.b 19 true) (.a (.at [.int .i64 3]) (.a (.b 25 true) (.a (.b 30 true) (.a (.b 35 true) .nil)))))))))) rfl rfl rfl rfl ?_
  repeat' apply And.intro
  all_goals first | trivial | rfl | exact .refl _ | exact leP_refl _ | (simp [leVs, leP, leE, leEs, leL, leC, rI]; done)
end Go.Proofs.Ytpnbncdclgmegaa
