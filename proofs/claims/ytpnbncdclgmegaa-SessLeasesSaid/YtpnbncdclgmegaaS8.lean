/-
  SessReasons.
-/
import Derived.Test.YtpnbncdclgmegaaS5
import Derived.Test.YtpnbncdclgmegaaO2
set_option maxRecDepth 100000
set_option maxHeartbeats 1000000
set_option linter.unusedVariables false
set_option linter.unusedSimpArgs false
namespace Go.Proofs.Ytpnbncdclgmegaa
open Go.RowKit

abbrev rE : En := ⟨2, 1, 2⟩
theorem mpOk_nil {ck : Nat} : MpOk ⟨ck, []⟩ := ⟨by simp, by simp, by simp, by simp, by simp⟩
theorem noOwners {e : En} {s : St} {ck : Nat} : FnOk Try.prog 27 [vC (.ptr 0 0)] (eO e s ⟨ck, []⟩) (vD (lI .i64 [])) (eO e s ⟨ck, []⟩) := owners_ok (j := 3) rfl rfl rfl mpOk_nil
theorem cel2 {a v : Int} : cellR (2, a, v) = keyR 2 a := by simp [cellR]
theorem cel3 {a v : Int} : cellR (3, a, v) = keyR 3 a := by simp [cellR]
theorem sessReasons_ok {k v : Int} (hk : b64 k) : FnOk Try.prog 10 [vI .i64 k, vI .u16 v] [] (vB true) [] := by
  have ha := awake24_ok
  have hw := within_ok (k := k) (n := 7) hk (by omega)
  have hr : k % 7 = 0 ∨ k % 7 = 1 ∨ k % 7 = 2 ∨ k % 7 = 3 ∨ k % 7 = 4 ∨ k % 7 = 5 ∨ k % 7 = 6 := by omega
  rcases hr with hr | hr | hr | hr | hr | hr | hr
  · rw [hr] at hw
    have h1 : FnOk Try.prog 31 [vI .i64 2, vI .i64 1, vI .i64 2, vI .i64 100, vI .i64 50] [] (vC (.ptr 0 0)) (ssO ⟨50, rE, ⟨0, 0, 100, []⟩, ⟨0, []⟩, ⟨0, []⟩, ⟨0, []⟩⟩) := made24_ok (a := 2) (b := 1) (c := 2) (r := 100) (t := 50)
    have h2 := sO_begin (x := ⟨50, rE, ⟨0, 0, 100, []⟩, ⟨0, []⟩, ⟨0, []⟩, ⟨0, []⟩⟩) (y := ⟨50, rE, ⟨0, 0, 100, []⟩, ⟨1, [(0, 1, ⟨0, [], []⟩)]⟩, ⟨1, [(0, 1, 50)]⟩, ⟨1, [(0, 1, ⟨1, 0, 0, 0⟩)]⟩⟩) (c := 1) (r := 0) rfl
    have h3 := sO_state (x := ⟨50, rE, ⟨0, 0, 100, []⟩, ⟨1, [(0, 1, ⟨0, [], []⟩)]⟩, ⟨1, [(0, 1, 50)]⟩, ⟨1, [(0, 1, ⟨1, 0, 0, 0⟩)]⟩⟩) (c := 1) (v := ⟨1, 0, 0, 0⟩) rfl
    have h4 := one_ok (t := 2) (a := 7) (v := v)
    have g0 : StGo ⟨0, 0, 100, []⟩ := stGo_small rfl ⟨by decide, by decide⟩ ⟨by decide, by decide⟩ ⟨by decide, by decide⟩
    have h5 := sO_read (x := ⟨50, rE, ⟨0, 0, 100, []⟩, ⟨1, [(0, 1, ⟨0, [], []⟩)]⟩, ⟨1, [(0, 1, 50)]⟩, ⟨1, [(0, 1, ⟨1, 0, 0, 0⟩)]⟩⟩) (y := ⟨50, rE, ⟨0, 0, 100, []⟩, ⟨1, [(0, 1, ⟨0, [(2, 0, 2)], []⟩)]⟩, ⟨1, [(0, 1, 50)]⟩, ⟨1, [(0, 1, ⟨1, 0, 0, 0⟩)]⟩⟩) (c := 1) (sp := (2, 0, 2)) (l := [0, 0]) (r := 0) ⟨g0, vwOk_one rfl ⟨by decide, by decide, by simp, by simp⟩⟩ rfl
    have h6 := sO_write (x := ⟨50, rE, ⟨0, 0, 100, []⟩, ⟨1, [(0, 1, ⟨0, [(2, 0, 2)], []⟩)]⟩, ⟨1, [(0, 1, 50)]⟩, ⟨1, [(0, 1, ⟨1, 0, 0, 0⟩)]⟩⟩) (y := ⟨50, rE, ⟨0, 0, 100, []⟩, ⟨1, [(0, 1, ⟨0, [(2, 0, 2)], [(2, 7, v)]⟩)]⟩, ⟨1, [(0, 1, 50)]⟩, ⟨1, [(0, 1, ⟨1, 0, 0, 0⟩)]⟩⟩) (c := 1) (l := [(2, 7, v)]) (r := 0) (by simp) ⟨g0, vwOk_one rfl ⟨by simp, by simp, fun x hx => by simp at hx; subst hx; exact sp202, by simp⟩⟩ (by simp only [swriteR, writeR, instR, mayL, onceL, onceF, List.any, cel2, cel3]; kernel_rfl)
    have h7 := sO_commit (x := ⟨50, rE, ⟨0, 0, 100, []⟩, ⟨1, [(0, 1, ⟨0, [(2, 0, 2)], [(2, 7, v)]⟩)]⟩, ⟨1, [(0, 1, 50)]⟩, ⟨1, [(0, 1, ⟨1, 0, 0, 0⟩)]⟩⟩) (y := ⟨50, rE, ⟨1, 1, 100, [((2, 7), [(1, v)])]⟩, ⟨1, []⟩, ⟨1, []⟩, ⟨1, [(0, 1, ⟨0, 0, 0, 1⟩)]⟩⟩) (c := 1) (r := 0) ⟨g0, vwOk_one rfl ⟨by simp, by simp, fun x hx => by simp at hx; subst hx; exact sp202, fun x hx => by simp at hx; subst hx; exact ⟨by simp, by simp⟩⟩⟩ (by have hM : Mo.get ⟨1, [(0, 1, ⟨0, [(2, 0, 2)], [(2, 7, v)]⟩)]⟩ 1 = some ⟨0, [(2, 0, 2)], [(2, 7, v)]⟩ := rfl; simp only [scomR, comR, hM, instR, onceL, onceF, cel2]; rfl)
    have e1 := sO_state (x := ⟨50, rE, ⟨1, 1, 100, [((2, 7), [(1, v)])]⟩, ⟨1, []⟩, ⟨1, []⟩, ⟨1, [(0, 1, ⟨0, 0, 0, 1⟩)]⟩⟩) (c := 1) (v := ⟨0, 0, 0, 1⟩) rfl
    have e2 := sEngine_ok (x := ⟨50, rE, ⟨1, 1, 100, [((2, 7), [(1, v)])]⟩, ⟨1, []⟩, ⟨1, []⟩, ⟨1, [(0, 1, ⟨0, 0, 0, 1⟩)]⟩⟩)
    have e3 := noOwners (e := rE) (s := ⟨1, 1, 100, [((2, 7), [(1, v)])]⟩) (ck := 1)
    refine FnOk.tree t10 (.f [] ha (.a (.b 15 false) (.f [] hw (.a (.b 19 false) (.o [] [] h1 (.o [0, 1, 2, 3, 4, 5, 6, 7] [] h2 (.a (.b 29 false) (.o [0, 1, 2, 3, 4, 5, 6, 7] [] h3 (.a (.b 34 false) (.f [] h4 (.o [0, 1, 2, 3, 4, 5, 6, 7] [] h5 (.o [0, 1, 2, 3, 4, 5, 6, 7] [] h6 (.a (.b 48 false) (.a (.b 51 false) (.a (.b 54 true) (.o [0, 1, 2, 3, 4, 5, 6, 7] [] h7 (.a (.b 121 true) (.o [0, 1, 2, 3, 4, 5, 6, 7] [] e1 (.a (.b 127 true) (.o [0, 1, 2, 3, 4, 5, 6, 7] [] e2 (.o [1, 2, 3, 4] [] e3 .nil))))))))))))))))))))) rfl rfl rfl rfl ?_
    repeat' apply And.intro
    all_goals first | trivial | rfl | exact .refl _ | exact leP_refl _ | (exact decide_eq_true (by omega)) | (exact decide_eq_false (by omega)) | (simp [leVs, leP, leE, leEs, leL, leC, rI, rwC, rwS]; done)
  · rw [hr] at hw
    have h1 : FnOk Try.prog 31 [vI .i64 2, vI .i64 1, vI .i64 2, vI .i64 100, vI .i64 50] [] (vC (.ptr 0 0)) (ssO ⟨50, rE, ⟨0, 0, 100, []⟩, ⟨0, []⟩, ⟨0, []⟩, ⟨0, []⟩⟩) := made24_ok (a := 2) (b := 1) (c := 2) (r := 100) (t := 50)
    have h2 := sO_begin (x := ⟨50, rE, ⟨0, 0, 100, []⟩, ⟨0, []⟩, ⟨0, []⟩, ⟨0, []⟩⟩) (y := ⟨50, rE, ⟨0, 0, 100, []⟩, ⟨1, [(0, 1, ⟨0, [], []⟩)]⟩, ⟨1, [(0, 1, 50)]⟩, ⟨1, [(0, 1, ⟨1, 0, 0, 0⟩)]⟩⟩) (c := 1) (r := 0) rfl
    have h3 := sO_state (x := ⟨50, rE, ⟨0, 0, 100, []⟩, ⟨1, [(0, 1, ⟨0, [], []⟩)]⟩, ⟨1, [(0, 1, 50)]⟩, ⟨1, [(0, 1, ⟨1, 0, 0, 0⟩)]⟩⟩) (c := 1) (v := ⟨1, 0, 0, 0⟩) rfl
    have h4 := one_ok (t := 2) (a := 7) (v := v)
    have g0 : StGo ⟨0, 0, 100, []⟩ := stGo_small rfl ⟨by decide, by decide⟩ ⟨by decide, by decide⟩ ⟨by decide, by decide⟩
    have h5 := sO_read (x := ⟨50, rE, ⟨0, 0, 100, []⟩, ⟨1, [(0, 1, ⟨0, [], []⟩)]⟩, ⟨1, [(0, 1, 50)]⟩, ⟨1, [(0, 1, ⟨1, 0, 0, 0⟩)]⟩⟩) (y := ⟨50, rE, ⟨0, 0, 100, []⟩, ⟨1, [(0, 1, ⟨0, [(2, 0, 2)], []⟩)]⟩, ⟨1, [(0, 1, 50)]⟩, ⟨1, [(0, 1, ⟨1, 0, 0, 0⟩)]⟩⟩) (c := 1) (sp := (2, 0, 2)) (l := [0, 0]) (r := 0) ⟨g0, vwOk_one rfl ⟨by decide, by decide, by simp, by simp⟩⟩ rfl
    have h6 := sO_write (x := ⟨50, rE, ⟨0, 0, 100, []⟩, ⟨1, [(0, 1, ⟨0, [(2, 0, 2)], []⟩)]⟩, ⟨1, [(0, 1, 50)]⟩, ⟨1, [(0, 1, ⟨1, 0, 0, 0⟩)]⟩⟩) (y := ⟨50, rE, ⟨0, 0, 100, []⟩, ⟨1, [(0, 1, ⟨0, [(2, 0, 2)], [(2, 7, v)]⟩)]⟩, ⟨1, [(0, 1, 50)]⟩, ⟨1, [(0, 1, ⟨1, 0, 0, 0⟩)]⟩⟩) (c := 1) (l := [(2, 7, v)]) (r := 0) (by simp) ⟨g0, vwOk_one rfl ⟨by simp, by simp, fun x hx => by simp at hx; subst hx; exact sp202, by simp⟩⟩ (by simp only [swriteR, writeR, instR, mayL, onceL, onceF, List.any, cel2, cel3]; kernel_rfl)
    have h7 := sO_abort (x := ⟨50, rE, ⟨0, 0, 100, []⟩, ⟨1, [(0, 1, ⟨0, [(2, 0, 2)], [(2, 7, v)]⟩)]⟩, ⟨1, [(0, 1, 50)]⟩, ⟨1, [(0, 1, ⟨1, 0, 0, 0⟩)]⟩⟩) (y := ⟨50, rE, ⟨0, 0, 100, []⟩, ⟨1, []⟩, ⟨1, []⟩, ⟨1, [(0, 1, ⟨0, 1, 0, 0⟩)]⟩⟩) (c := 1) (r := 0) rfl
    have e1 := sO_state (x := ⟨50, rE, ⟨0, 0, 100, []⟩, ⟨1, []⟩, ⟨1, []⟩, ⟨1, [(0, 1, ⟨0, 1, 0, 0⟩)]⟩⟩) (c := 1) (v := ⟨0, 1, 0, 0⟩) rfl
    have e2 := sEngine_ok (x := ⟨50, rE, ⟨0, 0, 100, []⟩, ⟨1, []⟩, ⟨1, []⟩, ⟨1, [(0, 1, ⟨0, 1, 0, 0⟩)]⟩⟩)
    have e3 := noOwners (e := rE) (s := ⟨0, 0, 100, []⟩) (ck := 1)
    refine FnOk.tree t10 (.f [] ha (.a (.b 15 false) (.f [] hw (.a (.b 19 false) (.o [] [] h1 (.o [0, 1, 2, 3, 4, 5, 6, 7] [] h2 (.a (.b 29 false) (.o [0, 1, 2, 3, 4, 5, 6, 7] [] h3 (.a (.b 34 false) (.f [] h4 (.o [0, 1, 2, 3, 4, 5, 6, 7] [] h5 (.o [0, 1, 2, 3, 4, 5, 6, 7] [] h6 (.a (.b 48 false) (.a (.b 51 false) (.a (.b 54 false) (.a (.b 59 true) (.o [0, 1, 2, 3, 4, 5, 6, 7] [] h7 (.a (.b 121 true) (.o [0, 1, 2, 3, 4, 5, 6, 7] [] e1 (.a (.b 127 true) (.o [0, 1, 2, 3, 4, 5, 6, 7] [] e2 (.o [1, 2, 3, 4] [] e3 .nil)))))))))))))))))))))) rfl rfl rfl rfl ?_
    repeat' apply And.intro
    all_goals first | trivial | rfl | exact .refl _ | exact leP_refl _ | (exact decide_eq_true (by omega)) | (exact decide_eq_false (by omega)) | (simp [leVs, leP, leE, leEs, leL, leC, rI, rwC, rwS]; done)
  · rw [hr] at hw
    have h1 : FnOk Try.prog 31 [vI .i64 2, vI .i64 1, vI .i64 2, vI .i64 100, vI .i64 50] [] (vC (.ptr 0 0)) (ssO ⟨50, rE, ⟨0, 0, 100, []⟩, ⟨0, []⟩, ⟨0, []⟩, ⟨0, []⟩⟩) := made24_ok (a := 2) (b := 1) (c := 2) (r := 100) (t := 50)
    have h2 := sO_begin (x := ⟨50, rE, ⟨0, 0, 100, []⟩, ⟨0, []⟩, ⟨0, []⟩, ⟨0, []⟩⟩) (y := ⟨50, rE, ⟨0, 0, 100, []⟩, ⟨1, [(0, 1, ⟨0, [], []⟩)]⟩, ⟨1, [(0, 1, 50)]⟩, ⟨1, [(0, 1, ⟨1, 0, 0, 0⟩)]⟩⟩) (c := 1) (r := 0) rfl
    have h3 := sO_state (x := ⟨50, rE, ⟨0, 0, 100, []⟩, ⟨1, [(0, 1, ⟨0, [], []⟩)]⟩, ⟨1, [(0, 1, 50)]⟩, ⟨1, [(0, 1, ⟨1, 0, 0, 0⟩)]⟩⟩) (c := 1) (v := ⟨1, 0, 0, 0⟩) rfl
    have h4 := one_ok (t := 2) (a := 7) (v := v)
    have g0 : StGo ⟨0, 0, 100, []⟩ := stGo_small rfl ⟨by decide, by decide⟩ ⟨by decide, by decide⟩ ⟨by decide, by decide⟩
    have h5 := sO_read (x := ⟨50, rE, ⟨0, 0, 100, []⟩, ⟨1, [(0, 1, ⟨0, [], []⟩)]⟩, ⟨1, [(0, 1, 50)]⟩, ⟨1, [(0, 1, ⟨1, 0, 0, 0⟩)]⟩⟩) (y := ⟨50, rE, ⟨0, 0, 100, []⟩, ⟨1, [(0, 1, ⟨0, [(2, 0, 2)], []⟩)]⟩, ⟨1, [(0, 1, 50)]⟩, ⟨1, [(0, 1, ⟨1, 0, 0, 0⟩)]⟩⟩) (c := 1) (sp := (2, 0, 2)) (l := [0, 0]) (r := 0) ⟨g0, vwOk_one rfl ⟨by decide, by decide, by simp, by simp⟩⟩ rfl
    have h6 := sO_write (x := ⟨50, rE, ⟨0, 0, 100, []⟩, ⟨1, [(0, 1, ⟨0, [(2, 0, 2)], []⟩)]⟩, ⟨1, [(0, 1, 50)]⟩, ⟨1, [(0, 1, ⟨1, 0, 0, 0⟩)]⟩⟩) (y := ⟨50, rE, ⟨0, 0, 100, []⟩, ⟨1, [(0, 1, ⟨0, [(2, 0, 2)], [(2, 7, v)]⟩)]⟩, ⟨1, [(0, 1, 50)]⟩, ⟨1, [(0, 1, ⟨1, 0, 0, 0⟩)]⟩⟩) (c := 1) (l := [(2, 7, v)]) (r := 0) (by simp) ⟨g0, vwOk_one rfl ⟨by simp, by simp, fun x hx => by simp at hx; subst hx; exact sp202, by simp⟩⟩ (by simp only [swriteR, writeR, instR, mayL, onceL, onceF, List.any, cel2, cel3]; kernel_rfl)
    have h7 := one_ok (t := 2) (a := 1) (v := v)
    have h8 := sO_write (x := ⟨50, rE, ⟨0, 0, 100, []⟩, ⟨1, [(0, 1, ⟨0, [(2, 0, 2)], [(2, 7, v)]⟩)]⟩, ⟨1, [(0, 1, 50)]⟩, ⟨1, [(0, 1, ⟨1, 0, 0, 0⟩)]⟩⟩) (y := ⟨50, rE, ⟨1, 1, 100, [((2, 1), [(1, v)])]⟩, ⟨1, [(0, 1, ⟨0, [(2, 0, 2)], [(2, 7, v)]⟩)]⟩, ⟨1, [(0, 1, 50)]⟩, ⟨1, [(0, 1, ⟨1, 0, 0, 0⟩)]⟩⟩) (c := 2) (l := [(2, 1, v)]) (r := 0) (by simp) (ssGo_none g0 rfl) (by simp only [swriteR, writeR, instR, mayL, onceL, onceF, List.any, cel2, cel3]; kernel_rfl)
    have g1 : StGo ⟨1, 1, 100, [((2, 1), [(1, v)])]⟩ := ⟨by simp, fun e he => by simp at he; subst he; exact ⟨by simp, by simp⟩, ⟨by simp, by simp⟩, ⟨by simp, by simp⟩, ⟨by simp, by simp⟩⟩
    have h9 := sO_commit (x := ⟨50, rE, ⟨1, 1, 100, [((2, 1), [(1, v)])]⟩, ⟨1, [(0, 1, ⟨0, [(2, 0, 2)], [(2, 7, v)]⟩)]⟩, ⟨1, [(0, 1, 50)]⟩, ⟨1, [(0, 1, ⟨1, 0, 0, 0⟩)]⟩⟩) (y := ⟨50, rE, ⟨1, 1, 100, [((2, 1), [(1, v)])]⟩, ⟨1, []⟩, ⟨1, []⟩, ⟨1, [(0, 1, ⟨0, 2, 0, 0⟩)]⟩⟩) (c := 1) (r := 7) ⟨g1, vwOk_one rfl ⟨by simp, by simp, fun x hx => by simp at hx; subst hx; exact sp202, fun x hx => by simp at hx; subst hx; exact ⟨by simp, by simp⟩⟩⟩ (by have hM : Mo.get ⟨1, [(0, 1, ⟨0, [(2, 0, 2)], [(2, 7, v)]⟩)]⟩ 1 = some ⟨0, [(2, 0, 2)], [(2, 7, v)]⟩ := rfl; simp only [scomR, comR, hM, instR, onceL, onceF, cel2]; rfl)
    have e1 := sO_state (x := ⟨50, rE, ⟨1, 1, 100, [((2, 1), [(1, v)])]⟩, ⟨1, []⟩, ⟨1, []⟩, ⟨1, [(0, 1, ⟨0, 2, 0, 0⟩)]⟩⟩) (c := 1) (v := ⟨0, 2, 0, 0⟩) rfl
    have e2 := sEngine_ok (x := ⟨50, rE, ⟨1, 1, 100, [((2, 1), [(1, v)])]⟩, ⟨1, []⟩, ⟨1, []⟩, ⟨1, [(0, 1, ⟨0, 2, 0, 0⟩)]⟩⟩)
    have e3 := noOwners (e := rE) (s := ⟨1, 1, 100, [((2, 1), [(1, v)])]⟩) (ck := 1)
    refine FnOk.tree t10 (.f [] ha (.a (.b 15 false) (.f [] hw (.a (.b 19 false) (.o [] [] h1 (.o [0, 1, 2, 3, 4, 5, 6, 7] [] h2 (.a (.b 29 false) (.o [0, 1, 2, 3, 4, 5, 6, 7] [] h3 (.a (.b 34 false) (.f [] h4 (.o [0, 1, 2, 3, 4, 5, 6, 7] [] h5 (.o [0, 1, 2, 3, 4, 5, 6, 7] [] h6 (.a (.b 48 false) (.a (.b 51 false) (.a (.b 54 false) (.a (.b 59 false) (.a (.b 64 true) (.f [] h7 (.o [0, 1, 2, 3, 4, 5, 6, 7] [] h8 (.a (.b 70 false) (.o [0, 1, 2, 3, 4, 5, 6, 7] [] h9 (.a (.b 121 true) (.o [0, 1, 2, 3, 4, 5, 6, 7] [] e1 (.a (.b 127 true) (.o [0, 1, 2, 3, 4, 5, 6, 7] [] e2 (.o [1, 2, 3, 4] [] e3 .nil)))))))))))))))))))))))))) rfl rfl rfl rfl ?_
    repeat' apply And.intro
    all_goals first | trivial | rfl | exact .refl _ | exact leP_refl _ | (exact decide_eq_true (by omega)) | (exact decide_eq_false (by omega)) | (simp [leVs, leP, leE, leEs, leL, leC, rI, rwC, rwS]; done)
  · rw [hr] at hw
    have h1 : FnOk Try.prog 31 [vI .i64 2, vI .i64 1, vI .i64 2, vI .i64 1, vI .i64 50] [] (vC (.ptr 0 0)) (ssO ⟨50, rE, ⟨0, 0, 1, []⟩, ⟨0, []⟩, ⟨0, []⟩, ⟨0, []⟩⟩) := made24_ok (a := 2) (b := 1) (c := 2) (r := 1) (t := 50)
    have h2 := sO_begin (x := ⟨50, rE, ⟨0, 0, 1, []⟩, ⟨0, []⟩, ⟨0, []⟩, ⟨0, []⟩⟩) (y := ⟨50, rE, ⟨0, 0, 1, []⟩, ⟨1, [(0, 1, ⟨0, [], []⟩)]⟩, ⟨1, [(0, 1, 50)]⟩, ⟨1, [(0, 1, ⟨1, 0, 0, 0⟩)]⟩⟩) (c := 1) (r := 0) rfl
    have h3 := sO_state (x := ⟨50, rE, ⟨0, 0, 1, []⟩, ⟨1, [(0, 1, ⟨0, [], []⟩)]⟩, ⟨1, [(0, 1, 50)]⟩, ⟨1, [(0, 1, ⟨1, 0, 0, 0⟩)]⟩⟩) (c := 1) (v := ⟨1, 0, 0, 0⟩) rfl
    have h4 := one_ok (t := 2) (a := 7) (v := v)
    have g0 : StGo ⟨0, 0, 1, []⟩ := stGo_small rfl ⟨by decide, by decide⟩ ⟨by decide, by decide⟩ ⟨by decide, by decide⟩
    have h5 := sO_read (x := ⟨50, rE, ⟨0, 0, 1, []⟩, ⟨1, [(0, 1, ⟨0, [], []⟩)]⟩, ⟨1, [(0, 1, 50)]⟩, ⟨1, [(0, 1, ⟨1, 0, 0, 0⟩)]⟩⟩) (y := ⟨50, rE, ⟨0, 0, 1, []⟩, ⟨1, [(0, 1, ⟨0, [(2, 0, 2)], []⟩)]⟩, ⟨1, [(0, 1, 50)]⟩, ⟨1, [(0, 1, ⟨1, 0, 0, 0⟩)]⟩⟩) (c := 1) (sp := (2, 0, 2)) (l := [0, 0]) (r := 0) ⟨g0, vwOk_one rfl ⟨by decide, by decide, by simp, by simp⟩⟩ rfl
    have h6 := sO_write (x := ⟨50, rE, ⟨0, 0, 1, []⟩, ⟨1, [(0, 1, ⟨0, [(2, 0, 2)], []⟩)]⟩, ⟨1, [(0, 1, 50)]⟩, ⟨1, [(0, 1, ⟨1, 0, 0, 0⟩)]⟩⟩) (y := ⟨50, rE, ⟨0, 0, 1, []⟩, ⟨1, [(0, 1, ⟨0, [(2, 0, 2)], [(2, 7, v)]⟩)]⟩, ⟨1, [(0, 1, 50)]⟩, ⟨1, [(0, 1, ⟨1, 0, 0, 0⟩)]⟩⟩) (c := 1) (l := [(2, 7, v)]) (r := 0) (by simp) ⟨g0, vwOk_one rfl ⟨by simp, by simp, fun x hx => by simp at hx; subst hx; exact sp202, by simp⟩⟩ (by simp only [swriteR, writeR, instR, mayL, onceL, onceF, List.any, cel2, cel3]; kernel_rfl)
    have h7 := one_ok (t := 3) (a := 1) (v := v)
    have h8 := sO_write (x := ⟨50, rE, ⟨0, 0, 1, []⟩, ⟨1, [(0, 1, ⟨0, [(2, 0, 2)], [(2, 7, v)]⟩)]⟩, ⟨1, [(0, 1, 50)]⟩, ⟨1, [(0, 1, ⟨1, 0, 0, 0⟩)]⟩⟩) (y := ⟨50, rE, ⟨1, 1, 1, [((3, 1), [(1, v)])]⟩, ⟨1, [(0, 1, ⟨0, [(2, 0, 2)], [(2, 7, v)]⟩)]⟩, ⟨1, [(0, 1, 50)]⟩, ⟨1, [(0, 1, ⟨1, 0, 0, 0⟩)]⟩⟩) (c := 2) (l := [(3, 1, v)]) (r := 0) (by simp) (ssGo_none g0 rfl) (by simp only [swriteR, writeR, instR, mayL, onceL, onceF, List.any, cel2, cel3]; kernel_rfl)
    have g1 : StGo ⟨1, 1, 1, [((3, 1), [(1, v)])]⟩ := ⟨by simp, fun e he => by simp at he; subst he; exact ⟨by simp, by simp⟩, ⟨by simp, by simp⟩, ⟨by simp, by simp⟩, ⟨by simp, by simp⟩⟩
    have h9 := sO_commit (x := ⟨50, rE, ⟨1, 1, 1, [((3, 1), [(1, v)])]⟩, ⟨1, [(0, 1, ⟨0, [(2, 0, 2)], [(2, 7, v)]⟩)]⟩, ⟨1, [(0, 1, 50)]⟩, ⟨1, [(0, 1, ⟨1, 0, 0, 0⟩)]⟩⟩) (y := ⟨50, rE, ⟨1, 1, 1, [((3, 1), [(1, v)])]⟩, ⟨1, []⟩, ⟨1, []⟩, ⟨1, [(0, 1, ⟨0, 4, 0, 0⟩)]⟩⟩) (c := 1) (r := 4) ⟨g1, vwOk_one rfl ⟨by simp, by simp, fun x hx => by simp at hx; subst hx; exact sp202, fun x hx => by simp at hx; subst hx; exact ⟨by simp, by simp⟩⟩⟩ (by have hM : Mo.get ⟨1, [(0, 1, ⟨0, [(2, 0, 2)], [(2, 7, v)]⟩)]⟩ 1 = some ⟨0, [(2, 0, 2)], [(2, 7, v)]⟩ := rfl; simp only [scomR, comR, hM, instR, onceL, onceF, cel2]; rfl)
    have e1 := sO_state (x := ⟨50, rE, ⟨1, 1, 1, [((3, 1), [(1, v)])]⟩, ⟨1, []⟩, ⟨1, []⟩, ⟨1, [(0, 1, ⟨0, 4, 0, 0⟩)]⟩⟩) (c := 1) (v := ⟨0, 4, 0, 0⟩) rfl
    have e2 := sEngine_ok (x := ⟨50, rE, ⟨1, 1, 1, [((3, 1), [(1, v)])]⟩, ⟨1, []⟩, ⟨1, []⟩, ⟨1, [(0, 1, ⟨0, 4, 0, 0⟩)]⟩⟩)
    have e3 := noOwners (e := rE) (s := ⟨1, 1, 1, [((3, 1), [(1, v)])]⟩) (ck := 1)
    refine FnOk.tree t10 (.f [] ha (.a (.b 15 false) (.f [] hw (.a (.b 19 true) (.o [] [] h1 (.o [0, 1, 2, 3, 4, 5, 6, 7] [] h2 (.a (.b 29 false) (.o [0, 1, 2, 3, 4, 5, 6, 7] [] h3 (.a (.b 34 false) (.f [] h4 (.o [0, 1, 2, 3, 4, 5, 6, 7] [] h5 (.o [0, 1, 2, 3, 4, 5, 6, 7] [] h6 (.a (.b 48 false) (.a (.b 51 false) (.a (.b 54 false) (.a (.b 59 false) (.a (.b 64 false) (.a (.b 74 true) (.f [] h7 (.o [0, 1, 2, 3, 4, 5, 6, 7] [] h8 (.a (.b 80 false) (.o [0, 1, 2, 3, 4, 5, 6, 7] [] h9 (.a (.b 121 true) (.o [0, 1, 2, 3, 4, 5, 6, 7] [] e1 (.a (.b 127 true) (.o [0, 1, 2, 3, 4, 5, 6, 7] [] e2 (.o [1, 2, 3, 4] [] e3 .nil))))))))))))))))))))))))))) rfl rfl rfl rfl ?_
    repeat' apply And.intro
    all_goals first | trivial | rfl | exact .refl _ | exact leP_refl _ | (exact decide_eq_true (by omega)) | (exact decide_eq_false (by omega)) | (simp [leVs, leP, leE, leEs, leL, leC, rI, rwC, rwS]; done)
  · rw [hr] at hw
    have h1 : FnOk Try.prog 31 [vI .i64 2, vI .i64 1, vI .i64 2, vI .i64 100, vI .i64 50] [] (vC (.ptr 0 0)) (ssO ⟨50, rE, ⟨0, 0, 100, []⟩, ⟨0, []⟩, ⟨0, []⟩, ⟨0, []⟩⟩) := made24_ok (a := 2) (b := 1) (c := 2) (r := 100) (t := 50)
    have h2 := sO_begin (x := ⟨50, rE, ⟨0, 0, 100, []⟩, ⟨0, []⟩, ⟨0, []⟩, ⟨0, []⟩⟩) (y := ⟨50, rE, ⟨0, 0, 100, []⟩, ⟨1, [(0, 1, ⟨0, [], []⟩)]⟩, ⟨1, [(0, 1, 50)]⟩, ⟨1, [(0, 1, ⟨1, 0, 0, 0⟩)]⟩⟩) (c := 1) (r := 0) rfl
    have h3 := sO_state (x := ⟨50, rE, ⟨0, 0, 100, []⟩, ⟨1, [(0, 1, ⟨0, [], []⟩)]⟩, ⟨1, [(0, 1, 50)]⟩, ⟨1, [(0, 1, ⟨1, 0, 0, 0⟩)]⟩⟩) (c := 1) (v := ⟨1, 0, 0, 0⟩) rfl
    have h4 := one_ok (t := 2) (a := 7) (v := v)
    have g0 : StGo ⟨0, 0, 100, []⟩ := stGo_small rfl ⟨by decide, by decide⟩ ⟨by decide, by decide⟩ ⟨by decide, by decide⟩
    have h5 := sO_read (x := ⟨50, rE, ⟨0, 0, 100, []⟩, ⟨1, [(0, 1, ⟨0, [], []⟩)]⟩, ⟨1, [(0, 1, 50)]⟩, ⟨1, [(0, 1, ⟨1, 0, 0, 0⟩)]⟩⟩) (y := ⟨50, rE, ⟨0, 0, 100, []⟩, ⟨1, [(0, 1, ⟨0, [(2, 0, 2)], []⟩)]⟩, ⟨1, [(0, 1, 50)]⟩, ⟨1, [(0, 1, ⟨1, 0, 0, 0⟩)]⟩⟩) (c := 1) (sp := (2, 0, 2)) (l := [0, 0]) (r := 0) ⟨g0, vwOk_one rfl ⟨by decide, by decide, by simp, by simp⟩⟩ rfl
    have h6 := sO_write (x := ⟨50, rE, ⟨0, 0, 100, []⟩, ⟨1, [(0, 1, ⟨0, [(2, 0, 2)], []⟩)]⟩, ⟨1, [(0, 1, 50)]⟩, ⟨1, [(0, 1, ⟨1, 0, 0, 0⟩)]⟩⟩) (y := ⟨50, rE, ⟨0, 0, 100, []⟩, ⟨1, [(0, 1, ⟨0, [(2, 0, 2)], [(2, 7, v)]⟩)]⟩, ⟨1, [(0, 1, 50)]⟩, ⟨1, [(0, 1, ⟨1, 0, 0, 0⟩)]⟩⟩) (c := 1) (l := [(2, 7, v)]) (r := 0) (by simp) ⟨g0, vwOk_one rfl ⟨by simp, by simp, fun x hx => by simp at hx; subst hx; exact sp202, by simp⟩⟩ (by simp only [swriteR, writeR, instR, mayL, onceL, onceF, List.any, cel2, cel3]; kernel_rfl)
    have h7 := sO_read (x := ⟨50, rE, ⟨0, 0, 100, []⟩, ⟨1, [(0, 1, ⟨0, [(2, 0, 2)], [(2, 7, v)]⟩)]⟩, ⟨1, [(0, 1, 50)]⟩, ⟨1, [(0, 1, ⟨1, 0, 0, 0⟩)]⟩⟩) (y := ⟨50, rE, ⟨0, 0, 100, []⟩, ⟨1, []⟩, ⟨1, []⟩, ⟨1, [(0, 1, ⟨2, 4, 0, 0⟩)]⟩⟩) (c := 1) (sp := (3, 0, 1)) (l := []) (r := 4) ⟨g0, vwOk_one rfl ⟨by simp, by simp, fun x hx => by simp at hx; subst hx; exact sp202, fun x hx => by simp at hx; subst hx; exact ⟨by simp, by simp⟩⟩⟩ (by kernel_rfl)
    have e1 := sO_state (x := ⟨50, rE, ⟨0, 0, 100, []⟩, ⟨1, []⟩, ⟨1, []⟩, ⟨1, [(0, 1, ⟨2, 4, 0, 0⟩)]⟩⟩) (c := 1) (v := ⟨2, 4, 0, 0⟩) rfl
    have e2 := sEngine_ok (x := ⟨50, rE, ⟨0, 0, 100, []⟩, ⟨1, []⟩, ⟨1, []⟩, ⟨1, [(0, 1, ⟨2, 4, 0, 0⟩)]⟩⟩)
    have e3 := noOwners (e := rE) (s := ⟨0, 0, 100, []⟩) (ck := 1)
    refine FnOk.tree t10 (.f [] ha (.a (.b 15 false) (.f [] hw (.a (.b 19 false) (.o [] [] h1 (.o [0, 1, 2, 3, 4, 5, 6, 7] [] h2 (.a (.b 29 false) (.o [0, 1, 2, 3, 4, 5, 6, 7] [] h3 (.a (.b 34 false) (.f [] h4 (.o [0, 1, 2, 3, 4, 5, 6, 7] [] h5 (.o [0, 1, 2, 3, 4, 5, 6, 7] [] h6 (.a (.b 48 false) (.a (.b 51 false) (.a (.b 54 false) (.a (.b 59 false) (.a (.b 64 false) (.a (.b 74 false) (.a (.b 84 true) (.o [0, 1, 2, 3, 4, 5, 6, 7] [] h7 (.a (.b 121 true) (.o [0, 1, 2, 3, 4, 5, 6, 7] [] e1 (.a (.b 127 true) (.o [0, 1, 2, 3, 4, 5, 6, 7] [] e2 (.o [1, 2, 3, 4] [] e3 .nil))))))))))))))))))))))))) rfl rfl rfl rfl ?_
    repeat' apply And.intro
    all_goals first | trivial | rfl | exact .refl _ | exact leP_refl _ | (exact decide_eq_true (by omega)) | (exact decide_eq_false (by omega)) | (simp [leVs, leP, leE, leEs, leL, leC, rI, rwC, rwS]; done)
  · rw [hr] at hw
    have h1 : FnOk Try.prog 31 [vI .i64 2, vI .i64 1, vI .i64 2, vI .i64 100, vI .i64 50] [] (vC (.ptr 0 0)) (ssO ⟨50, rE, ⟨0, 0, 100, []⟩, ⟨0, []⟩, ⟨0, []⟩, ⟨0, []⟩⟩) := made24_ok (a := 2) (b := 1) (c := 2) (r := 100) (t := 50)
    have h2 := sO_begin (x := ⟨50, rE, ⟨0, 0, 100, []⟩, ⟨0, []⟩, ⟨0, []⟩, ⟨0, []⟩⟩) (y := ⟨50, rE, ⟨0, 0, 100, []⟩, ⟨1, [(0, 1, ⟨0, [], []⟩)]⟩, ⟨1, [(0, 1, 50)]⟩, ⟨1, [(0, 1, ⟨1, 0, 0, 0⟩)]⟩⟩) (c := 1) (r := 0) rfl
    have h3 := sO_state (x := ⟨50, rE, ⟨0, 0, 100, []⟩, ⟨1, [(0, 1, ⟨0, [], []⟩)]⟩, ⟨1, [(0, 1, 50)]⟩, ⟨1, [(0, 1, ⟨1, 0, 0, 0⟩)]⟩⟩) (c := 1) (v := ⟨1, 0, 0, 0⟩) rfl
    have h4 := one_ok (t := 2) (a := 7) (v := v)
    have g0 : StGo ⟨0, 0, 100, []⟩ := stGo_small rfl ⟨by decide, by decide⟩ ⟨by decide, by decide⟩ ⟨by decide, by decide⟩
    have h5 := sO_read (x := ⟨50, rE, ⟨0, 0, 100, []⟩, ⟨1, [(0, 1, ⟨0, [], []⟩)]⟩, ⟨1, [(0, 1, 50)]⟩, ⟨1, [(0, 1, ⟨1, 0, 0, 0⟩)]⟩⟩) (y := ⟨50, rE, ⟨0, 0, 100, []⟩, ⟨1, [(0, 1, ⟨0, [(2, 0, 2)], []⟩)]⟩, ⟨1, [(0, 1, 50)]⟩, ⟨1, [(0, 1, ⟨1, 0, 0, 0⟩)]⟩⟩) (c := 1) (sp := (2, 0, 2)) (l := [0, 0]) (r := 0) ⟨g0, vwOk_one rfl ⟨by decide, by decide, by simp, by simp⟩⟩ rfl
    have h6 := sO_write (x := ⟨50, rE, ⟨0, 0, 100, []⟩, ⟨1, [(0, 1, ⟨0, [(2, 0, 2)], []⟩)]⟩, ⟨1, [(0, 1, 50)]⟩, ⟨1, [(0, 1, ⟨1, 0, 0, 0⟩)]⟩⟩) (y := ⟨50, rE, ⟨0, 0, 100, []⟩, ⟨1, [(0, 1, ⟨0, [(2, 0, 2)], [(2, 7, v)]⟩)]⟩, ⟨1, [(0, 1, 50)]⟩, ⟨1, [(0, 1, ⟨1, 0, 0, 0⟩)]⟩⟩) (c := 1) (l := [(2, 7, v)]) (r := 0) (by simp) ⟨g0, vwOk_one rfl ⟨by simp, by simp, fun x hx => by simp at hx; subst hx; exact sp202, by simp⟩⟩ (by simp only [swriteR, writeR, instR, mayL, onceL, onceF, List.any, cel2, cel3]; kernel_rfl)
    have h7 := one_ok (t := 2) (a := 8) (v := v)
    have h8 := sO_write (x := ⟨50, rE, ⟨0, 0, 100, []⟩, ⟨1, [(0, 1, ⟨0, [(2, 0, 2)], [(2, 7, v)]⟩)]⟩, ⟨1, [(0, 1, 50)]⟩, ⟨1, [(0, 1, ⟨1, 0, 0, 0⟩)]⟩⟩) (y := ⟨50, rE, ⟨0, 0, 100, []⟩, ⟨1, [(0, 1, ⟨0, [(2, 0, 2)], [(2, 7, v), (2, 8, v)]⟩)]⟩, ⟨1, [(0, 1, 50)]⟩, ⟨1, [(0, 1, ⟨1, 0, 0, 0⟩)]⟩⟩) (c := 1) (l := [(2, 8, v)]) (r := 0) (by simp) ⟨g0, vwOk_one rfl ⟨by simp, by simp, fun x hx => by simp at hx; subst hx; exact sp202, fun x hx => by simp at hx; subst hx; exact ⟨by simp, by simp⟩⟩⟩ (by simp only [swriteR, writeR, instR, mayL, onceL, onceF, List.any, cel2, cel3]; kernel_rfl)
    have h9 := one_ok (t := 2) (a := 9) (v := v)
    have h10 := sO_write (x := ⟨50, rE, ⟨0, 0, 100, []⟩, ⟨1, [(0, 1, ⟨0, [(2, 0, 2)], [(2, 7, v), (2, 8, v)]⟩)]⟩, ⟨1, [(0, 1, 50)]⟩, ⟨1, [(0, 1, ⟨1, 0, 0, 0⟩)]⟩⟩) (y := ⟨50, rE, ⟨0, 0, 100, []⟩, ⟨1, []⟩, ⟨1, []⟩, ⟨1, [(0, 1, ⟨2, 4, 0, 0⟩)]⟩⟩) (c := 1) (l := [(2, 9, v)]) (r := 4) (by simp) ⟨g0, vwOk_one rfl ⟨by simp, by simp, fun x hx => by simp at hx; subst hx; exact sp202, fun x hx => by simp at hx; rcases hx with rfl | rfl <;> exact ⟨by simp, by simp⟩⟩⟩ (by simp only [swriteR, writeR, instR, mayL, onceL, onceF, List.any, cel2, cel3]; kernel_rfl)
    have e1 := sO_state (x := ⟨50, rE, ⟨0, 0, 100, []⟩, ⟨1, []⟩, ⟨1, []⟩, ⟨1, [(0, 1, ⟨2, 4, 0, 0⟩)]⟩⟩) (c := 1) (v := ⟨2, 4, 0, 0⟩) rfl
    have e2 := sEngine_ok (x := ⟨50, rE, ⟨0, 0, 100, []⟩, ⟨1, []⟩, ⟨1, []⟩, ⟨1, [(0, 1, ⟨2, 4, 0, 0⟩)]⟩⟩)
    have e3 := noOwners (e := rE) (s := ⟨0, 0, 100, []⟩) (ck := 1)
    refine FnOk.tree t10 (.f [] ha (.a (.b 15 false) (.f [] hw (.a (.b 19 false) (.o [] [] h1 (.o [0, 1, 2, 3, 4, 5, 6, 7] [] h2 (.a (.b 29 false) (.o [0, 1, 2, 3, 4, 5, 6, 7] [] h3 (.a (.b 34 false) (.f [] h4 (.o [0, 1, 2, 3, 4, 5, 6, 7] [] h5 (.o [0, 1, 2, 3, 4, 5, 6, 7] [] h6 (.a (.b 48 false) (.a (.b 51 false) (.a (.b 54 false) (.a (.b 59 false) (.a (.b 64 false) (.a (.b 74 false) (.a (.b 84 false) (.a (.b 94 true) (.f [] h7 (.o [0, 1, 2, 3, 4, 5, 6, 7] [] h8 (.f [] h9 (.o [0, 1, 2, 3, 4, 5, 6, 7] [] h10 (.a (.b 121 true) (.o [0, 1, 2, 3, 4, 5, 6, 7] [] e1 (.a (.b 127 true) (.o [0, 1, 2, 3, 4, 5, 6, 7] [] e2 (.o [1, 2, 3, 4] [] e3 .nil))))))))))))))))))))))))))))) rfl rfl rfl rfl ?_
    repeat' apply And.intro
    all_goals first | trivial | rfl | exact .refl _ | exact leP_refl _ | (exact decide_eq_true (by omega)) | (exact decide_eq_false (by omega)) | (simp [leVs, leP, leE, leEs, leL, leC, rI, rwC, rwS]; done)
  · rw [hr] at hw
    have h1 : FnOk Try.prog 31 [vI .i64 2, vI .i64 1, vI .i64 2, vI .i64 100, vI .i64 50] [] (vC (.ptr 0 0)) (ssO ⟨50, rE, ⟨0, 0, 100, []⟩, ⟨0, []⟩, ⟨0, []⟩, ⟨0, []⟩⟩) := made24_ok (a := 2) (b := 1) (c := 2) (r := 100) (t := 50)
    have h2 := sO_begin (x := ⟨50, rE, ⟨0, 0, 100, []⟩, ⟨0, []⟩, ⟨0, []⟩, ⟨0, []⟩⟩) (y := ⟨50, rE, ⟨0, 0, 100, []⟩, ⟨1, [(0, 1, ⟨0, [], []⟩)]⟩, ⟨1, [(0, 1, 50)]⟩, ⟨1, [(0, 1, ⟨1, 0, 0, 0⟩)]⟩⟩) (c := 1) (r := 0) rfl
    have h3 := sO_state (x := ⟨50, rE, ⟨0, 0, 100, []⟩, ⟨1, [(0, 1, ⟨0, [], []⟩)]⟩, ⟨1, [(0, 1, 50)]⟩, ⟨1, [(0, 1, ⟨1, 0, 0, 0⟩)]⟩⟩) (c := 1) (v := ⟨1, 0, 0, 0⟩) rfl
    have h4 := one_ok (t := 2) (a := 7) (v := v)
    have g0 : StGo ⟨0, 0, 100, []⟩ := stGo_small rfl ⟨by decide, by decide⟩ ⟨by decide, by decide⟩ ⟨by decide, by decide⟩
    have h5 := sO_read (x := ⟨50, rE, ⟨0, 0, 100, []⟩, ⟨1, [(0, 1, ⟨0, [], []⟩)]⟩, ⟨1, [(0, 1, 50)]⟩, ⟨1, [(0, 1, ⟨1, 0, 0, 0⟩)]⟩⟩) (y := ⟨50, rE, ⟨0, 0, 100, []⟩, ⟨1, [(0, 1, ⟨0, [(2, 0, 2)], []⟩)]⟩, ⟨1, [(0, 1, 50)]⟩, ⟨1, [(0, 1, ⟨1, 0, 0, 0⟩)]⟩⟩) (c := 1) (sp := (2, 0, 2)) (l := [0, 0]) (r := 0) ⟨g0, vwOk_one rfl ⟨by decide, by decide, by simp, by simp⟩⟩ rfl
    have h6 := sO_write (x := ⟨50, rE, ⟨0, 0, 100, []⟩, ⟨1, [(0, 1, ⟨0, [(2, 0, 2)], []⟩)]⟩, ⟨1, [(0, 1, 50)]⟩, ⟨1, [(0, 1, ⟨1, 0, 0, 0⟩)]⟩⟩) (y := ⟨50, rE, ⟨0, 0, 100, []⟩, ⟨1, [(0, 1, ⟨0, [(2, 0, 2)], [(2, 7, v)]⟩)]⟩, ⟨1, [(0, 1, 50)]⟩, ⟨1, [(0, 1, ⟨1, 0, 0, 0⟩)]⟩⟩) (c := 1) (l := [(2, 7, v)]) (r := 0) (by simp) ⟨g0, vwOk_one rfl ⟨by simp, by simp, fun x hx => by simp at hx; subst hx; exact sp202, by simp⟩⟩ (by simp only [swriteR, writeR, instR, mayL, onceL, onceF, List.any, cel2, cel3]; kernel_rfl)
    have h7 := sO_close (x := ⟨50, rE, ⟨0, 0, 100, []⟩, ⟨1, [(0, 1, ⟨0, [(2, 0, 2)], [(2, 7, v)]⟩)]⟩, ⟨1, [(0, 1, 50)]⟩, ⟨1, [(0, 1, ⟨1, 0, 0, 0⟩)]⟩⟩) (y := ⟨50, rE, ⟨0, 0, 100, []⟩, ⟨1, []⟩, ⟨1, []⟩, ⟨1, []⟩⟩) (c := 1) (r := true) rfl
    have h8 := sO_close (x := ⟨50, rE, ⟨0, 0, 100, []⟩, ⟨1, []⟩, ⟨1, []⟩, ⟨1, []⟩⟩) (y := ⟨50, rE, ⟨0, 0, 100, []⟩, ⟨1, []⟩, ⟨1, []⟩, ⟨1, []⟩⟩) (c := 1) (r := false) rfl
    have e1 := sO_state (x := ⟨50, rE, ⟨0, 0, 100, []⟩, ⟨1, []⟩, ⟨1, []⟩, ⟨1, []⟩⟩) (c := 1) (v := ⟨0, 0, 0, 0⟩) rfl
    have e2 := sEngine_ok (x := ⟨50, rE, ⟨0, 0, 100, []⟩, ⟨1, []⟩, ⟨1, []⟩, ⟨1, []⟩⟩)
    have e3 := noOwners (e := rE) (s := ⟨0, 0, 100, []⟩) (ck := 1)
    refine FnOk.tree t10 (.f [] ha (.a (.b 15 false) (.f [] hw (.a (.b 19 false) (.o [] [] h1 (.o [0, 1, 2, 3, 4, 5, 6, 7] [] h2 (.a (.b 29 false) (.o [0, 1, 2, 3, 4, 5, 6, 7] [] h3 (.a (.b 34 false) (.f [] h4 (.o [0, 1, 2, 3, 4, 5, 6, 7] [] h5 (.o [0, 1, 2, 3, 4, 5, 6, 7] [] h6 (.a (.b 48 false) (.a (.b 51 false) (.a (.b 54 false) (.a (.b 59 false) (.a (.b 64 false) (.a (.b 74 false) (.a (.b 84 false) (.a (.b 94 false) (.a (.b 106 true) (.o [0, 1, 2, 3, 4, 5, 6, 7] [] h7 (.a (.b 111 false) (.o [0, 1, 2, 3, 4, 5, 6, 7] [] h8 (.a (.b 114 false) (.a (.b 121 true) (.o [0, 1, 2, 3, 4, 5, 6, 7] [] e1 (.a (.b 127 true) (.o [0, 1, 2, 3, 4, 5, 6, 7] [] e2 (.o [1, 2, 3, 4] [] e3 .nil)))))))))))))))))))))))))))))) rfl rfl rfl rfl ?_
    repeat' apply And.intro
    all_goals first | trivial | rfl | exact .refl _ | exact leP_refl _ | (exact decide_eq_true (by omega)) | (exact decide_eq_false (by omega)) | (simp [leVs, leP, leE, leEs, leL, leC, rI, rwC, rwS]; done)
end Go.Proofs.Ytpnbncdclgmegaa
