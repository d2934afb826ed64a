/-
  The chapter's example.
-/
import Derived.Test.YtpnbncdclgmegaaT14
set_option maxRecDepth 100000
set_option maxHeartbeats 1000000
set_option linter.unusedVariables false
set_option linter.unusedSimpArgs false
namespace Go.Proofs.Ytpnbncdclgmegaa
open Go.RowKit

theorem Mo.get_none {k : Int} : (⟨0, []⟩ : Mo).get k = none := rfl
theorem eO_begin {e : En} {s : St} {M M' : Mo} {k r : Int} (h : begR e s M k = (r, M')) : FnOk Try.prog 17 [vC (.ptr 0 0), vI .i64 k] (eO e s M) (vI .i64 r) (eO e s M') := by
  have := begin_ok (e := e) (s := s) (M := M) (k := k)
  rw [h] at this
  exact this
theorem eO_read {e : En} {s : St} {M M' : Mo} {k r : Int} {l : List Int} {sp : Spn} (hs : StOk s) (hv : ∀ v, M.get k = some v → VwOk v) (h : readR e s M k sp = (l, r, M')) : FnOk Try.prog 18 [vC (.ptr 0 0), vI .i64 k, vS3 sp] (eO e s M) (vWE l r) (eO e s M') := by
  have := eRead_ok (e := e) (s := s) (M := M) (k := k) (sp := sp) hs hv
  rw [h] at this
  exact this
theorem eO_write {e : En} {s : St} {M M' : Mo} {k r : Int} {l : List Cel} (hl : l.length ≤ 1000000) (hv : ∀ v, M.get k = some v → VwOk v) (h : writeR e M k l = (r, M')) : FnOk Try.prog 20 [vC (.ptr 0 0), vI .i64 k, vCl l] (eO e s M) (vI .i64 r) (eO e s M') := by
  have := eWrite_ok (e := e) (s := s) (M := M) (k := k) hl hv
  rw [h] at this
  exact this
theorem eO_commit {e : En} {s s' : St} {M M' : Mo} {k a r : Int} (hs : StGo s) (hv : ∀ v, M.get k = some v → VwOk v) (h : comR s M k = (a, r, s', M')) : FnOk Try.prog 22 [vC (.ptr 0 0), vI .i64 k] (eO e s M) (vPair a r) (eO e s' M') := by
  have := commit_ok (e := e) (s := s) (M := M) (k := k) hs hv
  rw [h] at this
  exact this
theorem sO_inst {s s' : St} {a r : Int} {l : List Cel} (hs : StGo s) (hl : l.length ≤ 100000000) (h : instR s l = (a, r, s')) : FnOk Try.prog 25 [vC (.ptr 0 0), vCl l] [stB s 1, stM s] (vPair a r) [stB s' 1, stM s'] := by
  have := inst_ok hs.len hs.ch hs.last hs.n hs.most hl
  rw [h] at this
  exact this
/-- The engine as the law holds it. -/
abbrev enL (e : En) : Ob := .box [.ptr 0 0, .t (.int .i64 e.most), .t (.int .i64 e.spans), .t (.int .i64 e.writes), .mp 3]
theorem stGo_small {s : St} (h1 : s.L = []) (h2 : 0 ≤ s.last ∧ s.last ≤ 18446744073709551615) (h3 : 0 ≤ s.n ∧ s.n ≤ 100000000) (h4 : 0 ≤ s.most ∧ s.most ≤ 100000000) : StGo s := ⟨by rw [h1]; simp, by rw [h1]; intro e he; simp at he, h2, h3, h4⟩
theorem vwOk_one {M : Mo} {k : Int} {v : Vw} (h : M.get k = some v) (hv : VwOk v) : ∀ u, M.get k = some u → VwOk u := fun u hu => by rw [h] at hu; cases hu; exact hv
theorem sp202 : SpB (2, 0, 2) := ⟨by decide, by decide⟩
theorem awake21_ok : FnOk Try.prog 11 [] [] (vB true) [] := by
  have h1 : FnOk Try.prog 12 [vI .u64 0, vI .i64 9] [] (vC (.ptr 0 0)) [stB ⟨0, 0, 9, []⟩ 1, stM ⟨0, 0, 9, []⟩] := sNew_ok (a := 0) (m := 9)
  have h2 : FnOk Try.prog 13 [vC (.ptr 0 0), vI .i64 4, vI .i64 9, vI .i64 9] [stB ⟨0, 0, 9, []⟩ 1, stM ⟨0, 0, 9, []⟩] (vC (.ptr 2 0)) [stB ⟨0, 0, 9, []⟩ 1, stM ⟨0, 0, 9, []⟩, enL ⟨4, 9, 9⟩, eM ⟨0, []⟩] := eNew_ok (a := 4) (b := 9) (c := 9)
  have h3 := eStore_ok (e := ⟨4, 9, 9⟩) (s := ⟨0, 0, 9, []⟩) (M := ⟨0, []⟩)
  have h4 := eO_begin (e := ⟨4, 9, 9⟩) (s := ⟨0, 0, 9, []⟩) (M := ⟨0, []⟩) (M' := ⟨1, [(0, 1, ⟨0, [], []⟩)]⟩) (k := 1) (r := 0) rfl
  have g0 : StGo ⟨0, 0, 9, []⟩ := stGo_small rfl ⟨by decide, by decide⟩ ⟨by decide, by decide⟩ ⟨by decide, by decide⟩
  have g1 : StGo ⟨1, 1, 9, [((2, 1), [(1, 5)])]⟩ := ⟨by decide, fun e he => by simp at he; subst he; exact ⟨by decide, by decide⟩, ⟨by decide, by decide⟩, ⟨by decide, by decide⟩, ⟨by decide, by decide⟩⟩
  have h5 := eO_read (e := ⟨4, 9, 9⟩) (s := ⟨0, 0, 9, []⟩) (M := ⟨1, [(0, 1, ⟨0, [], []⟩)]⟩) (M' := ⟨1, [(0, 1, ⟨0, [(2, 0, 2)], []⟩)]⟩) (k := 1) (sp := (2, 0, 2)) (l := [0, 0]) (r := 0) g0.ok (vwOk_one rfl ⟨by decide, by decide, by simp, by simp⟩) rfl
  have h6 := sO_inst (s := ⟨0, 0, 9, []⟩) (s' := ⟨1, 1, 9, [((2, 1), [(1, 5)])]⟩) (l := [(2, 1, 5)]) (a := 1) (r := 0) g0 (by decide) rfl
  have h7 := eO_write (e := ⟨4, 9, 9⟩) (s := ⟨1, 1, 9, [((2, 1), [(1, 5)])]⟩) (M := ⟨1, [(0, 1, ⟨0, [(2, 0, 2)], []⟩)]⟩) (M' := ⟨1, [(0, 1, ⟨0, [(2, 0, 2)], [(2, 9, 1)]⟩)]⟩) (k := 1) (l := [(2, 9, 1)]) (r := 0) (by decide) (vwOk_one rfl ⟨by decide, by decide, fun x hx => by simp at hx; subst hx; exact sp202, by simp⟩) rfl
  have h8 := eO_commit (e := ⟨4, 9, 9⟩) (s := ⟨1, 1, 9, [((2, 1), [(1, 5)])]⟩) (s' := ⟨1, 1, 9, [((2, 1), [(1, 5)])]⟩) (M := ⟨1, [(0, 1, ⟨0, [(2, 0, 2)], [(2, 9, 1)]⟩)]⟩) (M' := ⟨1, []⟩) (k := 1) (a := 0) (r := 7) g1 (vwOk_one rfl ⟨by decide, by decide, fun x hx => by simp at hx; subst hx; exact sp202, fun x hx => by simp at hx; subst hx; exact ⟨by decide, by decide⟩⟩) rfl
  refine FnOk.tree t11 (.o [] [] h1 (.o [0, 1] [] h2 (.o [2, 0, 1, 3] [] h3 (.o [2, 0, 1, 3] [] h4 (.a (.b 27 false) (.o [2, 0, 1, 3] [] h5 (.o [0, 1] [] h6 (.o [2, 0, 1, 3] [] h7 (.o [2, 0, 1, 3] [] h8 (.a (.b 54 true) (.a (.b 58 true) (.a (.b 62 true) .nil)))))))))))) rfl rfl rfl rfl ?_
  repeat' apply And.intro
  all_goals first | trivial | rfl | simp [leVs, leP, leE, leL, leC, rwC, rwS, rI]
end Go.Proofs.Ytpnbncdclgmegaa
