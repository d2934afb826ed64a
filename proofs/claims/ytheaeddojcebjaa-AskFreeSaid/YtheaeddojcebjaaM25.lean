/-
  The law AskBounds.
-/
import Derived.Test.YtheaeddojcebjaaM24
set_option maxRecDepth 100000
set_option maxHeartbeats 4000000
set_option linter.unusedVariables false
set_option linter.unusedSimpArgs false
namespace Go.Proofs.Ytheaeddojcebjaa
open Go.RowKit

theorem askBounds_0 {k at_ n off : Int} (hk : b64 k) (ha : b64 at_) (hn : b64 n) (ho : b64 off) (hw : k % 8 = 0) : FnOk Try.prog 12 [vI .i64 k, vI .i64 at_, vI .i64 n, vI .i64 off] [] (vB true) [] := by
  have haw := awake5_ok
  have hw8 := within_ok (k := k) (n := 8) hk (by omega)
  rw [hw] at hw8
  have hm := rMost_ok 1
  simp [rMost] at hm
  have hwn := within_ok (k := n) (n := 2000) hn (by omega)
  have hwo := within_ok (k := off) (n := 5) ho (by omega)
  have hwa := within_ok (k := at_) (n := 65536) ha (by omega)
  have r1 := mod_rng n (n := 2000) (by omega)
  have r2 := mod_rng off (n := 5) (by omega)
  have r3 := mod_rng at_ (n := 65536) (by omega)
  refine FnOk.start t12 rfl rfl rfl ?_
  refine Tri.seq (Tri.go [] rfl trivial ?_)
  refine Tri.seq (Tri.tree (.f [] haw .nil) rfl ⟨trivial, trivial, ?_⟩)
  refine Tri.seq (Tri.tree (.f [] hw8 .nil) rfl ⟨trivial, by simp [leVs, leP, leE, leC], ?_, ?_⟩)
  · simp
  refine Tri.seq (Tri.tree (.f [] hm .nil) rfl ⟨trivial, by simp [leVs, leP, leE, leC], ?_⟩)
  refine Tri.seq (Tri.go [] rfl ⟨trivial, trivial⟩ ?_)
  refine Tri.seq (Tri.tree .nil rfl ?_)
  refine Tri.mid (fun ρ hl => ∃ N, (0 ≤ N ∧ N ≤ 2000 + 1) ∧ hl = [] ∧ keepE ρ [0, 1, 2, 9, 12] = some [(0, vI .i64 k), (1, vI .i64 at_), (2, vI .i64 N), (9, vI .i64 1), (12, vI .i64 2000)]) ?_ ?_
  · generalize off % 5 = o at *
    have : o = 0 ∨ o = 1 ∨ o = 2 ∨ o = 3 ∨ o = 4 := by omega
    rcases this with rfl | rfl | rfl | rfl | rfl
    · refine Tri.tree (.f [] hwn (.f [] hwo .nil)) rfl ?_
      simp [leVs, leP, leE, leC]
      exact ⟨by omega, 0, by omega, rfl, keep_of rfl (by simp)⟩
    · refine Tri.tree (.f [] hwn (.f [] hwo .nil)) rfl ?_
      simp [leVs, leP, leE, leC]
      exact ⟨by omega, 1, by omega, rfl, keep_of rfl (by simp)⟩
    · refine Tri.tree (.f [] hwn (.f [] hwo .nil)) rfl ?_
      simp [leVs, leP, leE, leC]
      exact ⟨by omega, 2000, by omega, rfl, keep_of rfl (by simp)⟩
    · refine Tri.tree (.f [] hwn (.f [] hwo .nil)) rfl ?_
      simp [leVs, leP, leE, leC]
      exact ⟨by omega, 2000 + 1, by omega, rfl, keep_of rfl (by simp)⟩
    · refine Tri.tree (.f [] hwn (.f [] hwo .nil)) rfl ?_
      simp [leVs, leP, leE, leC]
      exact ⟨by omega, 1 + n % 2000, by omega, rfl, keep_of rfl (by simp)⟩
  rintro ρ hl' ⟨N, hN, rfl, hkk⟩
  refine Tri.keep _ hkk ?_
  refine Tri.seq (Tri.tree (.f [] hwa .nil) rfl ⟨trivial, by simp [leVs, leP, leE, leC], ?_⟩)
  generalize at_ % 65536 = q at *
  refine Tri.seq (Tri.tree (.f [] hw8 .nil) rfl ?_)
  refine ⟨trivial, by simp [leVs, leP, leE, leC], ?_⟩
  obtain ⟨a, ea⟩ : ∃ a : Ask, a = { fn := 1, at_ := q, n := N } := ⟨_, rfl⟩
  have hf : a.Fit := by
    subst ea
    refine fitA ?_ ?_ ?_ ?_ ?_ ?_ ?_ ?_ ?_ ?_ ?_ ?_ ?_ <;> simp [b64, Wrd] <;> omega
  have hr0 : a.right = decide (1 ≤ N ∧ N ≤ 2000) := by
    rw [Bool.eq_iff_iff]
    subst ea
    simp [Ask.right, Ask.same, Ask.only, Ask.rest, known, placeB, countsB, kMost]
    omega
  have hr := askRight_ok hf
  by_cases hfine : 1 ≤ N ∧ N ≤ 2000
  · rw [decide_eq_true hfine] at hr0
    rw [hr0] at hr
    have hb := askBytes_ok hf hr0
    have hl5 : (askB a).length = 5 := by subst ea; simp [askB, w2]
    subst ea
    refine Tri.treeR (.f [] hb (.a (.b 89 true) (.f [] hr (.a (.b 98 false) (.a (.b 103 false) (.a (.b 105 false) .nil)))))) rfl ?_
    simp [leVs, leP, leE, leL, leC, rI_rep, rF_rep, hl5, hfine]
  · rw [decide_eq_false hfine] at hr0
    rw [hr0] at hr
    have hb := askBytesNo_ok hf hr0
    subst ea
    refine Tri.treeR (.f [] hb (.br 89 (.f [] hr (.a (.b 98 false) (.a (.b 103 false) (.a (.b 105 true) .nil)))) (.f [] hr .nil))) rfl ?_
    simp [leVs, leP, leE, leL, leC, rI_rep, rF_rep]
    all_goals (repeat (first | omega | (intro _) | apply And.intro))
theorem askBounds_1 {k at_ n off : Int} (hk : b64 k) (ha : b64 at_) (hn : b64 n) (ho : b64 off) (hw : k % 8 = 1) : FnOk Try.prog 12 [vI .i64 k, vI .i64 at_, vI .i64 n, vI .i64 off] [] (vB true) [] := by
  have haw := awake5_ok
  have hw8 := within_ok (k := k) (n := 8) hk (by omega)
  rw [hw] at hw8
  have hm := rMost_ok 2
  simp [rMost] at hm
  have hwn := within_ok (k := n) (n := 2000) hn (by omega)
  have hwo := within_ok (k := off) (n := 5) ho (by omega)
  have hwa := within_ok (k := at_) (n := 65536) ha (by omega)
  have r1 := mod_rng n (n := 2000) (by omega)
  have r2 := mod_rng off (n := 5) (by omega)
  have r3 := mod_rng at_ (n := 65536) (by omega)
  refine FnOk.start t12 rfl rfl rfl ?_
  refine Tri.seq (Tri.go [] rfl trivial ?_)
  refine Tri.seq (Tri.tree (.f [] haw .nil) rfl ⟨trivial, trivial, ?_⟩)
  refine Tri.seq (Tri.tree (.f [] hw8 .nil) rfl ⟨trivial, by simp [leVs, leP, leE, leC], ?_, ?_⟩)
  · simp
  refine Tri.seq (Tri.tree (.f [] hm .nil) rfl ⟨trivial, by simp [leVs, leP, leE, leC], ?_⟩)
  refine Tri.seq (Tri.go [] rfl ⟨trivial, trivial⟩ ?_)
  refine Tri.seq (Tri.tree .nil rfl ?_)
  refine Tri.mid (fun ρ hl => ∃ N, (0 ≤ N ∧ N ≤ 2000 + 1) ∧ hl = [] ∧ keepE ρ [0, 1, 2, 9, 12] = some [(0, vI .i64 k), (1, vI .i64 at_), (2, vI .i64 N), (9, vI .i64 2), (12, vI .i64 2000)]) ?_ ?_
  · generalize off % 5 = o at *
    have : o = 0 ∨ o = 1 ∨ o = 2 ∨ o = 3 ∨ o = 4 := by omega
    rcases this with rfl | rfl | rfl | rfl | rfl
    · refine Tri.tree (.f [] hwn (.f [] hwo .nil)) rfl ?_
      simp [leVs, leP, leE, leC]
      exact ⟨by omega, 0, by omega, rfl, keep_of rfl (by simp)⟩
    · refine Tri.tree (.f [] hwn (.f [] hwo .nil)) rfl ?_
      simp [leVs, leP, leE, leC]
      exact ⟨by omega, 1, by omega, rfl, keep_of rfl (by simp)⟩
    · refine Tri.tree (.f [] hwn (.f [] hwo .nil)) rfl ?_
      simp [leVs, leP, leE, leC]
      exact ⟨by omega, 2000, by omega, rfl, keep_of rfl (by simp)⟩
    · refine Tri.tree (.f [] hwn (.f [] hwo .nil)) rfl ?_
      simp [leVs, leP, leE, leC]
      exact ⟨by omega, 2000 + 1, by omega, rfl, keep_of rfl (by simp)⟩
    · refine Tri.tree (.f [] hwn (.f [] hwo .nil)) rfl ?_
      simp [leVs, leP, leE, leC]
      exact ⟨by omega, 1 + n % 2000, by omega, rfl, keep_of rfl (by simp)⟩
  rintro ρ hl' ⟨N, hN, rfl, hkk⟩
  refine Tri.keep _ hkk ?_
  refine Tri.seq (Tri.tree (.f [] hwa .nil) rfl ⟨trivial, by simp [leVs, leP, leE, leC], ?_⟩)
  generalize at_ % 65536 = q at *
  refine Tri.seq (Tri.tree (.f [] hw8 .nil) rfl ?_)
  refine ⟨trivial, by simp [leVs, leP, leE, leC], ?_⟩
  obtain ⟨a, ea⟩ : ∃ a : Ask, a = { fn := 2, at_ := q, n := N } := ⟨_, rfl⟩
  have hf : a.Fit := by
    subst ea
    refine fitA ?_ ?_ ?_ ?_ ?_ ?_ ?_ ?_ ?_ ?_ ?_ ?_ ?_ <;> simp [b64, Wrd] <;> omega
  have hr0 : a.right = decide (1 ≤ N ∧ N ≤ 2000) := by
    rw [Bool.eq_iff_iff]
    subst ea
    simp [Ask.right, Ask.same, Ask.only, Ask.rest, known, placeB, countsB, kMost]
    omega
  have hr := askRight_ok hf
  by_cases hfine : 1 ≤ N ∧ N ≤ 2000
  · rw [decide_eq_true hfine] at hr0
    rw [hr0] at hr
    have hb := askBytes_ok hf hr0
    have hl5 : (askB a).length = 5 := by subst ea; simp [askB, w2]
    subst ea
    refine Tri.treeR (.f [] hb (.a (.b 89 true) (.f [] hr (.a (.b 98 false) (.a (.b 103 false) (.a (.b 105 false) .nil)))))) rfl ?_
    simp [leVs, leP, leE, leL, leC, rI_rep, rF_rep, hl5, hfine]
  · rw [decide_eq_false hfine] at hr0
    rw [hr0] at hr
    have hb := askBytesNo_ok hf hr0
    subst ea
    refine Tri.treeR (.f [] hb (.br 89 (.f [] hr (.a (.b 98 false) (.a (.b 103 false) (.a (.b 105 true) .nil)))) (.f [] hr .nil))) rfl ?_
    simp [leVs, leP, leE, leL, leC, rI_rep, rF_rep]
    all_goals (repeat (first | omega | (intro _) | apply And.intro))
theorem askBounds_2 {k at_ n off : Int} (hk : b64 k) (ha : b64 at_) (hn : b64 n) (ho : b64 off) (hw : k % 8 = 2) : FnOk Try.prog 12 [vI .i64 k, vI .i64 at_, vI .i64 n, vI .i64 off] [] (vB true) [] := by
  have haw := awake5_ok
  have hw8 := within_ok (k := k) (n := 8) hk (by omega)
  rw [hw] at hw8
  have hm := rMost_ok 3
  simp [rMost] at hm
  have hwn := within_ok (k := n) (n := 125) hn (by omega)
  have hwo := within_ok (k := off) (n := 5) ho (by omega)
  have hwa := within_ok (k := at_) (n := 65536) ha (by omega)
  have r1 := mod_rng n (n := 125) (by omega)
  have r2 := mod_rng off (n := 5) (by omega)
  have r3 := mod_rng at_ (n := 65536) (by omega)
  refine FnOk.start t12 rfl rfl rfl ?_
  refine Tri.seq (Tri.go [] rfl trivial ?_)
  refine Tri.seq (Tri.tree (.f [] haw .nil) rfl ⟨trivial, trivial, ?_⟩)
  refine Tri.seq (Tri.tree (.f [] hw8 .nil) rfl ⟨trivial, by simp [leVs, leP, leE, leC], ?_, ?_⟩)
  · simp
  refine Tri.seq (Tri.tree (.f [] hm .nil) rfl ⟨trivial, by simp [leVs, leP, leE, leC], ?_⟩)
  refine Tri.seq (Tri.go [] rfl ⟨trivial, trivial⟩ ?_)
  refine Tri.seq (Tri.tree .nil rfl ?_)
  refine Tri.mid (fun ρ hl => ∃ N, (0 ≤ N ∧ N ≤ 125 + 1) ∧ hl = [] ∧ keepE ρ [0, 1, 2, 9, 12] = some [(0, vI .i64 k), (1, vI .i64 at_), (2, vI .i64 N), (9, vI .i64 3), (12, vI .i64 125)]) ?_ ?_
  · generalize off % 5 = o at *
    have : o = 0 ∨ o = 1 ∨ o = 2 ∨ o = 3 ∨ o = 4 := by omega
    rcases this with rfl | rfl | rfl | rfl | rfl
    · refine Tri.tree (.f [] hwn (.f [] hwo .nil)) rfl ?_
      simp [leVs, leP, leE, leC]
      exact ⟨by omega, 0, by omega, rfl, keep_of rfl (by simp)⟩
    · refine Tri.tree (.f [] hwn (.f [] hwo .nil)) rfl ?_
      simp [leVs, leP, leE, leC]
      exact ⟨by omega, 1, by omega, rfl, keep_of rfl (by simp)⟩
    · refine Tri.tree (.f [] hwn (.f [] hwo .nil)) rfl ?_
      simp [leVs, leP, leE, leC]
      exact ⟨by omega, 125, by omega, rfl, keep_of rfl (by simp)⟩
    · refine Tri.tree (.f [] hwn (.f [] hwo .nil)) rfl ?_
      simp [leVs, leP, leE, leC]
      exact ⟨by omega, 125 + 1, by omega, rfl, keep_of rfl (by simp)⟩
    · refine Tri.tree (.f [] hwn (.f [] hwo .nil)) rfl ?_
      simp [leVs, leP, leE, leC]
      exact ⟨by omega, 1 + n % 125, by omega, rfl, keep_of rfl (by simp)⟩
  rintro ρ hl' ⟨N, hN, rfl, hkk⟩
  refine Tri.keep _ hkk ?_
  refine Tri.seq (Tri.tree (.f [] hwa .nil) rfl ⟨trivial, by simp [leVs, leP, leE, leC], ?_⟩)
  generalize at_ % 65536 = q at *
  refine Tri.seq (Tri.tree (.f [] hw8 .nil) rfl ?_)
  refine ⟨trivial, by simp [leVs, leP, leE, leC], ?_⟩
  obtain ⟨a, ea⟩ : ∃ a : Ask, a = { fn := 3, at_ := q, n := N } := ⟨_, rfl⟩
  have hf : a.Fit := by
    subst ea
    refine fitA ?_ ?_ ?_ ?_ ?_ ?_ ?_ ?_ ?_ ?_ ?_ ?_ ?_ <;> simp [b64, Wrd] <;> omega
  have hr0 : a.right = decide (1 ≤ N ∧ N ≤ 125) := by
    rw [Bool.eq_iff_iff]
    subst ea
    simp [Ask.right, Ask.same, Ask.only, Ask.rest, known, placeB, countsB, kMost]
    omega
  have hr := askRight_ok hf
  by_cases hfine : 1 ≤ N ∧ N ≤ 125
  · rw [decide_eq_true hfine] at hr0
    rw [hr0] at hr
    have hb := askBytes_ok hf hr0
    have hl5 : (askB a).length = 5 := by subst ea; simp [askB, w2]
    subst ea
    refine Tri.treeR (.f [] hb (.a (.b 89 true) (.f [] hr (.a (.b 98 false) (.a (.b 103 false) (.a (.b 105 false) .nil)))))) rfl ?_
    simp [leVs, leP, leE, leL, leC, rI_rep, rF_rep, hl5, hfine]
  · rw [decide_eq_false hfine] at hr0
    rw [hr0] at hr
    have hb := askBytesNo_ok hf hr0
    subst ea
    refine Tri.treeR (.f [] hb (.br 89 (.f [] hr (.a (.b 98 false) (.a (.b 103 false) (.a (.b 105 true) .nil)))) (.f [] hr .nil))) rfl ?_
    simp [leVs, leP, leE, leL, leC, rI_rep, rF_rep]
    all_goals (repeat (first | omega | (intro _) | apply And.intro))
theorem askBounds_3 {k at_ n off : Int} (hk : b64 k) (ha : b64 at_) (hn : b64 n) (ho : b64 off) (hw : k % 8 = 3) : FnOk Try.prog 12 [vI .i64 k, vI .i64 at_, vI .i64 n, vI .i64 off] [] (vB true) [] := by
  have haw := awake5_ok
  have hw8 := within_ok (k := k) (n := 8) hk (by omega)
  rw [hw] at hw8
  have hm := rMost_ok 4
  simp [rMost] at hm
  have hwn := within_ok (k := n) (n := 125) hn (by omega)
  have hwo := within_ok (k := off) (n := 5) ho (by omega)
  have hwa := within_ok (k := at_) (n := 65536) ha (by omega)
  have r1 := mod_rng n (n := 125) (by omega)
  have r2 := mod_rng off (n := 5) (by omega)
  have r3 := mod_rng at_ (n := 65536) (by omega)
  refine FnOk.start t12 rfl rfl rfl ?_
  refine Tri.seq (Tri.go [] rfl trivial ?_)
  refine Tri.seq (Tri.tree (.f [] haw .nil) rfl ⟨trivial, trivial, ?_⟩)
  refine Tri.seq (Tri.tree (.f [] hw8 .nil) rfl ⟨trivial, by simp [leVs, leP, leE, leC], ?_, ?_⟩)
  · simp
  refine Tri.seq (Tri.tree (.f [] hm .nil) rfl ⟨trivial, by simp [leVs, leP, leE, leC], ?_⟩)
  refine Tri.seq (Tri.go [] rfl ⟨trivial, trivial⟩ ?_)
  refine Tri.seq (Tri.tree .nil rfl ?_)
  refine Tri.mid (fun ρ hl => ∃ N, (0 ≤ N ∧ N ≤ 125 + 1) ∧ hl = [] ∧ keepE ρ [0, 1, 2, 9, 12] = some [(0, vI .i64 k), (1, vI .i64 at_), (2, vI .i64 N), (9, vI .i64 4), (12, vI .i64 125)]) ?_ ?_
  · generalize off % 5 = o at *
    have : o = 0 ∨ o = 1 ∨ o = 2 ∨ o = 3 ∨ o = 4 := by omega
    rcases this with rfl | rfl | rfl | rfl | rfl
    · refine Tri.tree (.f [] hwn (.f [] hwo .nil)) rfl ?_
      simp [leVs, leP, leE, leC]
      exact ⟨by omega, 0, by omega, rfl, keep_of rfl (by simp)⟩
    · refine Tri.tree (.f [] hwn (.f [] hwo .nil)) rfl ?_
      simp [leVs, leP, leE, leC]
      exact ⟨by omega, 1, by omega, rfl, keep_of rfl (by simp)⟩
    · refine Tri.tree (.f [] hwn (.f [] hwo .nil)) rfl ?_
      simp [leVs, leP, leE, leC]
      exact ⟨by omega, 125, by omega, rfl, keep_of rfl (by simp)⟩
    · refine Tri.tree (.f [] hwn (.f [] hwo .nil)) rfl ?_
      simp [leVs, leP, leE, leC]
      exact ⟨by omega, 125 + 1, by omega, rfl, keep_of rfl (by simp)⟩
    · refine Tri.tree (.f [] hwn (.f [] hwo .nil)) rfl ?_
      simp [leVs, leP, leE, leC]
      exact ⟨by omega, 1 + n % 125, by omega, rfl, keep_of rfl (by simp)⟩
  rintro ρ hl' ⟨N, hN, rfl, hkk⟩
  refine Tri.keep _ hkk ?_
  refine Tri.seq (Tri.tree (.f [] hwa .nil) rfl ⟨trivial, by simp [leVs, leP, leE, leC], ?_⟩)
  generalize at_ % 65536 = q at *
  refine Tri.seq (Tri.tree (.f [] hw8 .nil) rfl ?_)
  refine ⟨trivial, by simp [leVs, leP, leE, leC], ?_⟩
  obtain ⟨a, ea⟩ : ∃ a : Ask, a = { fn := 4, at_ := q, n := N } := ⟨_, rfl⟩
  have hf : a.Fit := by
    subst ea
    refine fitA ?_ ?_ ?_ ?_ ?_ ?_ ?_ ?_ ?_ ?_ ?_ ?_ ?_ <;> simp [b64, Wrd] <;> omega
  have hr0 : a.right = decide (1 ≤ N ∧ N ≤ 125) := by
    rw [Bool.eq_iff_iff]
    subst ea
    simp [Ask.right, Ask.same, Ask.only, Ask.rest, known, placeB, countsB, kMost]
    omega
  have hr := askRight_ok hf
  by_cases hfine : 1 ≤ N ∧ N ≤ 125
  · rw [decide_eq_true hfine] at hr0
    rw [hr0] at hr
    have hb := askBytes_ok hf hr0
    have hl5 : (askB a).length = 5 := by subst ea; simp [askB, w2]
    subst ea
    refine Tri.treeR (.f [] hb (.a (.b 89 true) (.f [] hr (.a (.b 98 false) (.a (.b 103 false) (.a (.b 105 false) .nil)))))) rfl ?_
    simp [leVs, leP, leE, leL, leC, rI_rep, rF_rep, hl5, hfine]
  · rw [decide_eq_false hfine] at hr0
    rw [hr0] at hr
    have hb := askBytesNo_ok hf hr0
    subst ea
    refine Tri.treeR (.f [] hb (.br 89 (.f [] hr (.a (.b 98 false) (.a (.b 103 false) (.a (.b 105 true) .nil)))) (.f [] hr .nil))) rfl ?_
    simp [leVs, leP, leE, leL, leC, rI_rep, rF_rep]
    all_goals (repeat (first | omega | (intro _) | apply And.intro))
theorem askBounds_4 {k at_ n off : Int} (hk : b64 k) (ha : b64 at_) (hn : b64 n) (ho : b64 off) (hw : k % 8 = 4) : FnOk Try.prog 12 [vI .i64 k, vI .i64 at_, vI .i64 n, vI .i64 off] [] (vB true) [] := by
  have haw := awake5_ok
  have hw8 := within_ok (k := k) (n := 8) hk (by omega)
  rw [hw] at hw8
  have hm := rMost_ok 15
  simp [rMost] at hm
  have hwn := within_ok (k := n) (n := 1968) hn (by omega)
  have hwo := within_ok (k := off) (n := 5) ho (by omega)
  have hwa := within_ok (k := at_) (n := 65536) ha (by omega)
  have r1 := mod_rng n (n := 1968) (by omega)
  have r2 := mod_rng off (n := 5) (by omega)
  have r3 := mod_rng at_ (n := 65536) (by omega)
  refine FnOk.start t12 rfl rfl rfl ?_
  refine Tri.seq (Tri.go [] rfl trivial ?_)
  refine Tri.seq (Tri.tree (.f [] haw .nil) rfl ⟨trivial, trivial, ?_⟩)
  refine Tri.seq (Tri.tree (.f [] hw8 .nil) rfl ⟨trivial, by simp [leVs, leP, leE, leC], ?_, ?_⟩)
  · simp
  refine Tri.seq (Tri.tree (.f [] hm .nil) rfl ⟨trivial, by simp [leVs, leP, leE, leC], ?_⟩)
  refine Tri.seq (Tri.go [] rfl ⟨trivial, trivial⟩ ?_)
  refine Tri.seq (Tri.tree (.f [] hw8 .nil) rfl ⟨trivial, by simp [leVs, leP, leE, leC], ?_⟩)
  refine Tri.mid (fun ρ hl => ∃ N, (0 ≤ N ∧ N ≤ 1968 + 1) ∧ hl = [] ∧ keepE ρ [0, 1, 2, 9, 12] = some [(0, vI .i64 k), (1, vI .i64 at_), (2, vI .i64 N), (9, vI .i64 15), (12, vI .i64 1968)]) ?_ ?_
  · generalize off % 5 = o at *
    have : o = 0 ∨ o = 1 ∨ o = 2 ∨ o = 3 ∨ o = 4 := by omega
    rcases this with rfl | rfl | rfl | rfl | rfl
    · refine Tri.tree (.f [] hwn (.f [] hwo .nil)) rfl ?_
      simp [leVs, leP, leE, leC]
      exact ⟨by omega, 0, by omega, rfl, keep_of rfl (by simp)⟩
    · refine Tri.tree (.f [] hwn (.f [] hwo .nil)) rfl ?_
      simp [leVs, leP, leE, leC]
      exact ⟨by omega, 1, by omega, rfl, keep_of rfl (by simp)⟩
    · refine Tri.tree (.f [] hwn (.f [] hwo .nil)) rfl ?_
      simp [leVs, leP, leE, leC]
      exact ⟨by omega, 1968, by omega, rfl, keep_of rfl (by simp)⟩
    · refine Tri.tree (.f [] hwn (.f [] hwo .nil)) rfl ?_
      simp [leVs, leP, leE, leC]
      exact ⟨by omega, 1968 + 1, by omega, rfl, keep_of rfl (by simp)⟩
    · refine Tri.tree (.f [] hwn (.f [] hwo .nil)) rfl ?_
      simp [leVs, leP, leE, leC]
      exact ⟨by omega, 1 + n % 1968, by omega, rfl, keep_of rfl (by simp)⟩
  rintro ρ hl' ⟨N, hN, rfl, hkk⟩
  refine Tri.keep _ hkk ?_
  refine Tri.seq (Tri.tree (.f [] hwa .nil) rfl ⟨trivial, by simp [leVs, leP, leE, leC], ?_⟩)
  generalize at_ % 65536 = q at *
  refine Tri.seq (Tri.tree (.f [] hw8 (.w .nil)) rfl ?_)
  refine ⟨trivial, by simp [leVs, leP, leE, leC], ⟨by omega, by omega, by omega, by omega⟩, ?_⟩
  obtain ⟨a, ea⟩ : ∃ a : Ask, a = { fn := 15, at_ := q, n := N, bits := List.replicate N.toNat false } := ⟨_, rfl⟩
  have hf : a.Fit := by
    subst ea
    refine fitA ?_ ?_ ?_ ?_ ?_ ?_ ?_ ?_ ?_ ?_ ?_ ?_ ?_ <;> simp [b64, Wrd] <;> omega
  have hr0 : a.right = decide (1 ≤ N ∧ N ≤ 1968) := by
    rw [Bool.eq_iff_iff]
    subst ea
    simp [Ask.right, Ask.same, Ask.only, Ask.rest, known, placeB, countsB, kMost]
    omega
  have hr := askRight_ok hf
  by_cases hfine : 1 ≤ N ∧ N ≤ 1968
  · rw [decide_eq_true hfine] at hr0
    rw [hr0] at hr
    have hb := askBytesO_ok hf hr0 (by subst ea; simp)
    obtain ⟨c1, c2, c3⟩ := bump_ok hf hr0 (k := 5) (by subst ea; simp)
    have hby := askB_byt hf hr0
    obtain ⟨_, _, c4, _⟩ := askB_ok hf hr0
    have hp := askParse_ok (b := (askB a).set 5 ((askB a).getD 5 0 + 1)) (byt_set hby _ (by omega)) (by simp; omega)
    have hg := rI_get (k := .u8) c1
    have hx : ((askB a).getD 5 0 + 1) % 256 = (askB a).getD 5 0 + 1 := by omega
    generalize (askB a).getD 5 0 = x at *
    generalize askB a = bb at *
    have hs : (rI .u8 bb).modify 5 (fun r => putAt r 0 [.int .u8 (x + 1)]) = rI .u8 (bb.set 5 (x + 1)) := rI_mod
    subst ea
    refine Tri.treeR (.o [] [] hb (.a (.b 89 true) (.f [] hr (.a (.b 98 false) (.a (.b 103 false) (.a (.b 105 false) (.a (.at [.int .u8 x]) (.f [1] hp .nil)))))))) rfl ?_
    simp [leVs, leP, leE, leL, leC, rI_rep, rF_rep, eqOs, wu8, hx, hs, hfine, hg, c3]
    all_goals (repeat (first | omega | (intro _) | apply And.intro))
  · rw [decide_eq_false hfine] at hr0
    rw [hr0] at hr
    have hb := askBytesNo_ok hf hr0
    subst ea
    refine Tri.treeR (.f [] hb (.br 89 (.f [] hr (.a (.b 98 false) (.a (.b 103 false) (.a (.b 105 true) .nil)))) (.f [] hr .nil))) rfl ?_
    simp [leVs, leP, leE, leL, leC, rI_rep, rF_rep]
    all_goals (repeat (first | omega | (intro _) | apply And.intro))
theorem askBounds_5 {k at_ n off : Int} (hk : b64 k) (ha : b64 at_) (hn : b64 n) (ho : b64 off) (hw : k % 8 = 5) : FnOk Try.prog 12 [vI .i64 k, vI .i64 at_, vI .i64 n, vI .i64 off] [] (vB true) [] := by
  have haw := awake5_ok
  have hw8 := within_ok (k := k) (n := 8) hk (by omega)
  rw [hw] at hw8
  have hm := rMost_ok 16
  simp [rMost] at hm
  have hwn := within_ok (k := n) (n := 123) hn (by omega)
  have hwo := within_ok (k := off) (n := 5) ho (by omega)
  have hwa := within_ok (k := at_) (n := 65536) ha (by omega)
  have r1 := mod_rng n (n := 123) (by omega)
  have r2 := mod_rng off (n := 5) (by omega)
  have r3 := mod_rng at_ (n := 65536) (by omega)
  refine FnOk.start t12 rfl rfl rfl ?_
  refine Tri.seq (Tri.go [] rfl trivial ?_)
  refine Tri.seq (Tri.tree (.f [] haw .nil) rfl ⟨trivial, trivial, ?_⟩)
  refine Tri.seq (Tri.tree (.f [] hw8 .nil) rfl ⟨trivial, by simp [leVs, leP, leE, leC], ?_, ?_⟩)
  · simp
  refine Tri.seq (Tri.tree (.f [] hm .nil) rfl ⟨trivial, by simp [leVs, leP, leE, leC], ?_⟩)
  refine Tri.seq (Tri.go [] rfl ⟨trivial, trivial⟩ ?_)
  refine Tri.seq (Tri.tree (.f [] hw8 .nil) rfl ⟨trivial, by simp [leVs, leP, leE, leC], ?_⟩)
  refine Tri.mid (fun ρ hl => ∃ N, (0 ≤ N ∧ N ≤ 123 + 1) ∧ hl = [] ∧ keepE ρ [0, 1, 2, 9, 12] = some [(0, vI .i64 k), (1, vI .i64 at_), (2, vI .i64 N), (9, vI .i64 16), (12, vI .i64 123)]) ?_ ?_
  · generalize off % 5 = o at *
    have : o = 0 ∨ o = 1 ∨ o = 2 ∨ o = 3 ∨ o = 4 := by omega
    rcases this with rfl | rfl | rfl | rfl | rfl
    · refine Tri.tree (.f [] hwn (.f [] hwo .nil)) rfl ?_
      simp [leVs, leP, leE, leC]
      exact ⟨by omega, 0, by omega, rfl, keep_of rfl (by simp)⟩
    · refine Tri.tree (.f [] hwn (.f [] hwo .nil)) rfl ?_
      simp [leVs, leP, leE, leC]
      exact ⟨by omega, 1, by omega, rfl, keep_of rfl (by simp)⟩
    · refine Tri.tree (.f [] hwn (.f [] hwo .nil)) rfl ?_
      simp [leVs, leP, leE, leC]
      exact ⟨by omega, 123, by omega, rfl, keep_of rfl (by simp)⟩
    · refine Tri.tree (.f [] hwn (.f [] hwo .nil)) rfl ?_
      simp [leVs, leP, leE, leC]
      exact ⟨by omega, 123 + 1, by omega, rfl, keep_of rfl (by simp)⟩
    · refine Tri.tree (.f [] hwn (.f [] hwo .nil)) rfl ?_
      simp [leVs, leP, leE, leC]
      exact ⟨by omega, 1 + n % 123, by omega, rfl, keep_of rfl (by simp)⟩
  rintro ρ hl' ⟨N, hN, rfl, hkk⟩
  refine Tri.keep _ hkk ?_
  refine Tri.seq (Tri.tree (.f [] hwa .nil) rfl ⟨trivial, by simp [leVs, leP, leE, leC], ?_⟩)
  generalize at_ % 65536 = q at *
  refine Tri.seq (Tri.tree (.f [] hw8 (.w .nil)) rfl ?_)
  refine ⟨trivial, by simp [leVs, leP, leE, leC], ⟨by omega, by omega, by omega, by omega⟩, ?_⟩
  obtain ⟨a, ea⟩ : ∃ a : Ask, a = { fn := 16, at_ := q, n := N, words := List.replicate N.toNat 0 } := ⟨_, rfl⟩
  have hf : a.Fit := by
    subst ea
    refine fitA ?_ ?_ ?_ ?_ ?_ ?_ ?_ ?_ ?_ ?_ ?_ ?_ ?_ <;> simp [b64, Wrd] <;> omega
  have hr0 : a.right = decide (1 ≤ N ∧ N ≤ 123) := by
    rw [Bool.eq_iff_iff]
    subst ea
    simp [Ask.right, Ask.same, Ask.only, Ask.rest, known, placeB, countsB, kMost]
    omega
  have hr := askRight_ok hf
  by_cases hfine : 1 ≤ N ∧ N ≤ 123
  · rw [decide_eq_true hfine] at hr0
    rw [hr0] at hr
    have hb := askBytesO_ok hf hr0 (by subst ea; simp)
    obtain ⟨c1, c2, c3⟩ := bump_ok hf hr0 (k := 5) (by subst ea; simp)
    have hby := askB_byt hf hr0
    obtain ⟨_, _, c4, _⟩ := askB_ok hf hr0
    have hp := askParse_ok (b := (askB a).set 5 ((askB a).getD 5 0 + 1)) (byt_set hby _ (by omega)) (by simp; omega)
    have hg := rI_get (k := .u8) c1
    have hx : ((askB a).getD 5 0 + 1) % 256 = (askB a).getD 5 0 + 1 := by omega
    generalize (askB a).getD 5 0 = x at *
    generalize askB a = bb at *
    have hs : (rI .u8 bb).modify 5 (fun r => putAt r 0 [.int .u8 (x + 1)]) = rI .u8 (bb.set 5 (x + 1)) := rI_mod
    subst ea
    refine Tri.treeR (.o [] [] hb (.a (.b 89 true) (.f [] hr (.a (.b 98 false) (.a (.b 103 false) (.a (.b 105 false) (.a (.at [.int .u8 x]) (.f [1] hp .nil)))))))) rfl ?_
    simp [leVs, leP, leE, leL, leC, rI_rep, rF_rep, eqOs, wu8, hx, hs, hfine, hg, c3]
    all_goals (repeat (first | omega | (intro _) | apply And.intro))
  · rw [decide_eq_false hfine] at hr0
    rw [hr0] at hr
    have hb := askBytesNo_ok hf hr0
    subst ea
    refine Tri.treeR (.f [] hb (.br 89 (.f [] hr (.a (.b 98 false) (.a (.b 103 false) (.a (.b 105 true) .nil)))) (.f [] hr .nil))) rfl ?_
    simp [leVs, leP, leE, leL, leC, rI_rep, rF_rep]
    all_goals (repeat (first | omega | (intro _) | apply And.intro))
theorem askBounds_6 {k at_ n off : Int} (hk : b64 k) (ha : b64 at_) (hn : b64 n) (ho : b64 off) (hw : k % 8 = 6) : FnOk Try.prog 12 [vI .i64 k, vI .i64 at_, vI .i64 n, vI .i64 off] [] (vB true) [] := by
  have haw := awake5_ok
  have hw8 := within_ok (k := k) (n := 8) hk (by omega)
  rw [hw] at hw8
  have hm := rMost_ok 23
  simp [rMost] at hm
  have hwn := within_ok (k := n) (n := 121) hn (by omega)
  have hwo := within_ok (k := off) (n := 5) ho (by omega)
  have hwa := within_ok (k := at_) (n := 65536) ha (by omega)
  have r1 := mod_rng n (n := 121) (by omega)
  have r2 := mod_rng off (n := 5) (by omega)
  have r3 := mod_rng at_ (n := 65536) (by omega)
  refine FnOk.start t12 rfl rfl rfl ?_
  refine Tri.seq (Tri.go [] rfl trivial ?_)
  refine Tri.seq (Tri.tree (.f [] haw .nil) rfl ⟨trivial, trivial, ?_⟩)
  refine Tri.seq (Tri.tree (.f [] hw8 .nil) rfl ⟨trivial, by simp [leVs, leP, leE, leC], ?_, ?_⟩)
  · simp
  refine Tri.seq (Tri.tree (.f [] hm .nil) rfl ⟨trivial, by simp [leVs, leP, leE, leC], ?_⟩)
  refine Tri.seq (Tri.go [] rfl ⟨trivial, trivial⟩ ?_)
  refine Tri.seq (Tri.tree (.f [] hw8 .nil) rfl ⟨trivial, by simp [leVs, leP, leE, leC], ?_⟩)
  refine Tri.mid (fun ρ hl => ∃ N, (0 ≤ N ∧ N ≤ 121 + 1) ∧ hl = [] ∧ keepE ρ [0, 1, 2, 9, 12] = some [(0, vI .i64 k), (1, vI .i64 at_), (2, vI .i64 N), (9, vI .i64 23), (12, vI .i64 121)]) ?_ ?_
  · generalize off % 5 = o at *
    have : o = 0 ∨ o = 1 ∨ o = 2 ∨ o = 3 ∨ o = 4 := by omega
    rcases this with rfl | rfl | rfl | rfl | rfl
    · refine Tri.tree (.f [] hwn (.f [] hwo .nil)) rfl ?_
      simp [leVs, leP, leE, leC]
      exact ⟨by omega, 0, by omega, rfl, keep_of rfl (by simp)⟩
    · refine Tri.tree (.f [] hwn (.f [] hwo .nil)) rfl ?_
      simp [leVs, leP, leE, leC]
      exact ⟨by omega, 1, by omega, rfl, keep_of rfl (by simp)⟩
    · refine Tri.tree (.f [] hwn (.f [] hwo .nil)) rfl ?_
      simp [leVs, leP, leE, leC]
      exact ⟨by omega, 121, by omega, rfl, keep_of rfl (by simp)⟩
    · refine Tri.tree (.f [] hwn (.f [] hwo .nil)) rfl ?_
      simp [leVs, leP, leE, leC]
      exact ⟨by omega, 121 + 1, by omega, rfl, keep_of rfl (by simp)⟩
    · refine Tri.tree (.f [] hwn (.f [] hwo .nil)) rfl ?_
      simp [leVs, leP, leE, leC]
      exact ⟨by omega, 1 + n % 121, by omega, rfl, keep_of rfl (by simp)⟩
  rintro ρ hl' ⟨N, hN, rfl, hkk⟩
  refine Tri.keep _ hkk ?_
  refine Tri.seq (Tri.tree (.f [] hwa .nil) rfl ⟨trivial, by simp [leVs, leP, leE, leC], ?_⟩)
  generalize at_ % 65536 = q at *
  refine Tri.seq (Tri.tree (.f [] hw8 (.w .nil)) rfl ?_)
  refine ⟨trivial, by simp [leVs, leP, leE, leC], ⟨by omega, by omega, by omega, by omega⟩, ?_⟩
  obtain ⟨a, ea⟩ : ∃ a : Ask, a = { fn := 23, at_ := q, n := N, words := List.replicate N.toNat 0, rn := 1 } := ⟨_, rfl⟩
  have hf : a.Fit := by
    subst ea
    refine fitA ?_ ?_ ?_ ?_ ?_ ?_ ?_ ?_ ?_ ?_ ?_ ?_ ?_ <;> simp [b64, Wrd] <;> omega
  have hr0 : a.right = decide (1 ≤ N ∧ N ≤ 121) := by
    rw [Bool.eq_iff_iff]
    subst ea
    simp [Ask.right, Ask.same, Ask.only, Ask.rest, known, placeB, countsB, kMost]
    omega
  have hr := askRight_ok hf
  by_cases hfine : 1 ≤ N ∧ N ≤ 121
  · rw [decide_eq_true hfine] at hr0
    rw [hr0] at hr
    have hb := askBytesO_ok hf hr0 (by subst ea; simp)
    obtain ⟨c1, c2, c3⟩ := bump_ok hf hr0 (k := 9) (by subst ea; simp)
    have hby := askB_byt hf hr0
    obtain ⟨_, _, c4, _⟩ := askB_ok hf hr0
    have hp := askParse_ok (b := (askB a).set 9 ((askB a).getD 9 0 + 1)) (byt_set hby _ (by omega)) (by simp; omega)
    have hg := rI_get (k := .u8) c1
    have hx : ((askB a).getD 9 0 + 1) % 256 = (askB a).getD 9 0 + 1 := by omega
    generalize (askB a).getD 9 0 = x at *
    generalize askB a = bb at *
    have hs : (rI .u8 bb).modify 9 (fun r => putAt r 0 [.int .u8 (x + 1)]) = rI .u8 (bb.set 9 (x + 1)) := rI_mod
    subst ea
    refine Tri.treeR (.o [] [] hb (.a (.b 89 true) (.f [] hr (.a (.b 98 false) (.a (.b 103 false) (.a (.b 105 false) (.a (.at [.int .u8 x]) (.f [1] hp .nil)))))))) rfl ?_
    simp [leVs, leP, leE, leL, leC, rI_rep, rF_rep, eqOs, wu8, hx, hs, hfine, hg, c3]
    all_goals (repeat (first | omega | (intro _) | apply And.intro))
  · rw [decide_eq_false hfine] at hr0
    rw [hr0] at hr
    have hb := askBytesNo_ok hf hr0
    subst ea
    refine Tri.treeR (.f [] hb (.br 89 (.f [] hr (.a (.b 98 false) (.a (.b 103 false) (.a (.b 105 true) .nil)))) (.f [] hr .nil))) rfl ?_
    simp [leVs, leP, leE, leL, leC, rI_rep, rF_rep]
    all_goals (repeat (first | omega | (intro _) | apply And.intro))
theorem askBounds_7 {k at_ n off : Int} (hk : b64 k) (ha : b64 at_) (hn : b64 n) (ho : b64 off) (hw : k % 8 = 7) : FnOk Try.prog 12 [vI .i64 k, vI .i64 at_, vI .i64 n, vI .i64 off] [] (vB true) [] := by
  have haw := awake5_ok
  have hw8 := within_ok (k := k) (n := 8) hk (by omega)
  rw [hw] at hw8
  have hm := rMost_ok 23
  simp [rMost] at hm
  have hwn := within_ok (k := n) (n := 125) hn (by omega)
  have hwo := within_ok (k := off) (n := 5) ho (by omega)
  have hwa := within_ok (k := at_) (n := 65536) ha (by omega)
  have r1 := mod_rng n (n := 125) (by omega)
  have r2 := mod_rng off (n := 5) (by omega)
  have r3 := mod_rng at_ (n := 65536) (by omega)
  refine FnOk.start t12 rfl rfl rfl ?_
  refine Tri.seq (Tri.go [] rfl trivial ?_)
  refine Tri.seq (Tri.tree (.f [] haw .nil) rfl ⟨trivial, trivial, ?_⟩)
  refine Tri.seq (Tri.tree (.f [] hw8 .nil) rfl ⟨trivial, by simp [leVs, leP, leE, leC], ?_, ?_⟩)
  · simp
  refine Tri.seq (Tri.tree (.f [] hm .nil) rfl ⟨trivial, by simp [leVs, leP, leE, leC], ?_⟩)
  refine Tri.seq (Tri.go [] rfl ⟨trivial, trivial⟩ ?_)
  refine Tri.seq (Tri.tree (.f [] hw8 .nil) rfl ⟨trivial, by simp [leVs, leP, leE, leC], ?_⟩)
  refine Tri.mid (fun ρ hl => ∃ N, (0 ≤ N ∧ N ≤ 125 + 1) ∧ hl = [] ∧ keepE ρ [0, 1, 2, 9, 12] = some [(0, vI .i64 k), (1, vI .i64 at_), (2, vI .i64 N), (9, vI .i64 23), (12, vI .i64 125)]) ?_ ?_
  · generalize off % 5 = o at *
    have : o = 0 ∨ o = 1 ∨ o = 2 ∨ o = 3 ∨ o = 4 := by omega
    rcases this with rfl | rfl | rfl | rfl | rfl
    · refine Tri.tree (.f [] hwn (.f [] hwo .nil)) rfl ?_
      simp [leVs, leP, leE, leC]
      exact ⟨by omega, 0, by omega, rfl, keep_of rfl (by simp)⟩
    · refine Tri.tree (.f [] hwn (.f [] hwo .nil)) rfl ?_
      simp [leVs, leP, leE, leC]
      exact ⟨by omega, 1, by omega, rfl, keep_of rfl (by simp)⟩
    · refine Tri.tree (.f [] hwn (.f [] hwo .nil)) rfl ?_
      simp [leVs, leP, leE, leC]
      exact ⟨by omega, 125, by omega, rfl, keep_of rfl (by simp)⟩
    · refine Tri.tree (.f [] hwn (.f [] hwo .nil)) rfl ?_
      simp [leVs, leP, leE, leC]
      exact ⟨by omega, 125 + 1, by omega, rfl, keep_of rfl (by simp)⟩
    · refine Tri.tree (.f [] hwn (.f [] hwo .nil)) rfl ?_
      simp [leVs, leP, leE, leC]
      exact ⟨by omega, 1 + n % 125, by omega, rfl, keep_of rfl (by simp)⟩
  rintro ρ hl' ⟨N, hN, rfl, hkk⟩
  refine Tri.keep _ hkk ?_
  refine Tri.seq (Tri.tree (.f [] hwa .nil) rfl ⟨trivial, by simp [leVs, leP, leE, leC], ?_⟩)
  generalize at_ % 65536 = q at *
  refine Tri.seq (Tri.tree (.f [] hw8 (.w .nil)) rfl ?_)
  refine ⟨trivial, by simp [leVs, leP, leE, leC], ⟨by omega, by omega, by omega, by omega⟩, ?_⟩
  obtain ⟨a, ea⟩ : ∃ a : Ask, a = { fn := 23, at_ := q, n := 1, words := List.replicate 1 0, rn := N } := ⟨_, rfl⟩
  have hf : a.Fit := by
    subst ea
    refine fitA ?_ ?_ ?_ ?_ ?_ ?_ ?_ ?_ ?_ ?_ ?_ ?_ ?_ <;> simp [b64, Wrd] <;> omega
  have hr0 : a.right = decide (1 ≤ N ∧ N ≤ 125) := by
    rw [Bool.eq_iff_iff]
    subst ea
    simp [Ask.right, Ask.same, Ask.only, Ask.rest, known, placeB, countsB, kMost]
    omega
  have hr := askRight_ok hf
  by_cases hfine : 1 ≤ N ∧ N ≤ 125
  · rw [decide_eq_true hfine] at hr0
    rw [hr0] at hr
    have hb := askBytesO_ok hf hr0 (by subst ea; simp)
    obtain ⟨c1, c2, c3⟩ := bump_ok hf hr0 (k := 9) (by subst ea; simp)
    have hby := askB_byt hf hr0
    obtain ⟨_, _, c4, _⟩ := askB_ok hf hr0
    have hp := askParse_ok (b := (askB a).set 9 ((askB a).getD 9 0 + 1)) (byt_set hby _ (by omega)) (by simp; omega)
    have hg := rI_get (k := .u8) c1
    have hx : ((askB a).getD 9 0 + 1) % 256 = (askB a).getD 9 0 + 1 := by omega
    generalize (askB a).getD 9 0 = x at *
    generalize askB a = bb at *
    have hs : (rI .u8 bb).modify 9 (fun r => putAt r 0 [.int .u8 (x + 1)]) = rI .u8 (bb.set 9 (x + 1)) := rI_mod
    subst ea
    refine Tri.treeR (.o [] [] hb (.a (.b 89 true) (.f [] hr (.a (.b 98 false) (.a (.b 103 false) (.a (.b 105 false) (.a (.at [.int .u8 x]) (.f [1] hp .nil)))))))) rfl ?_
    simp [leVs, leP, leE, leL, leC, rI_rep, rF_rep, rI_one, eqOs, wu8, hx, hs, hfine, hg, c3]
    all_goals (repeat (first | omega | (intro _) | apply And.intro))
  · rw [decide_eq_false hfine] at hr0
    rw [hr0] at hr
    have hb := askBytesNo_ok hf hr0
    subst ea
    refine Tri.treeR (.f [] hb (.br 89 (.f [] hr (.a (.b 98 false) (.a (.b 103 false) (.a (.b 105 true) .nil)))) (.f [] hr .nil))) rfl ?_
    simp [leVs, leP, leE, leL, leC, rI_rep, rF_rep, rI_one]
    all_goals (repeat (first | omega | (intro _) | apply And.intro))
theorem askBounds_ok {k at_ n off : Int} (hk : b64 k) (ha : b64 at_) (hn : b64 n) (ho : b64 off) : FnOk Try.prog 12 [vI .i64 k, vI .i64 at_, vI .i64 n, vI .i64 off] [] (vB true) [] := by
  have hw := mod_rng k (n := 8) (by omega)
  have : k % 8 = 0 ∨ k % 8 = 1 ∨ k % 8 = 2 ∨ k % 8 = 3 ∨ k % 8 = 4 ∨ k % 8 = 5 ∨ k % 8 = 6 ∨ k % 8 = 7 := by omega
  rcases this with h | h | h | h | h | h | h | h
  · exact askBounds_0 hk ha hn ho h
  · exact askBounds_1 hk ha hn ho h
  · exact askBounds_2 hk ha hn ho h
  · exact askBounds_3 hk ha hn ho h
  · exact askBounds_4 hk ha hn ho h
  · exact askBounds_5 hk ha hn ho h
  · exact askBounds_6 hk ha hn ho h
  · exact askBounds_7 hk ha hn ho h
end Go.Proofs.Ytheaeddojcebjaa
