/-
  The document's plain and Right.
-/
import Derived.Test.YthddlkhfkncgpaaGreatM7a
import Derived.Test.YthddlkhfkncgpaaGreatKD
set_option maxRecDepth 100000
set_option maxHeartbeats 4000000
set_option linter.unusedVariables false
set_option linter.unusedSimpArgs false
namespace Go.Proofs.YthddlkhfkncgpaaGreat
open Go.RowKit

theorem rPlain_ok {a : Ask} (hk : known a.fn = true) : FnOk Tryz.prog 117 [a.v] [] (vB a.same) [] := by
  obtain ⟨fn, at_, n, vl, an, og, bs, ws, ra, rn, cd, ob⟩ := a
  have hfn := of_decide_eq_true hk
  clear hk
  simp only at hfn
  rcases hfn with rfl | rfl | rfl | rfl | rfl | rfl | rfl | rfl | rfl | rfl | rfl
  · refine FnOk.tree t117 (.br 63 .nil (.br 82 .nil (.br 75 .nil (.br 88 .nil (.br 97 .nil (.br 117 .nil (.br 110 .nil (.br 130 .nil (.br 123 .nil .nil))))))))) rfl rfl rfl rfl ?_
    simp only [leP, leE, leC, Ask.same, Ask.only, true_and, and_true, List.length_nil]
    simp +contextual [List.length_pos_iff]
  · refine FnOk.tree t117 (.br 63 .nil (.br 82 .nil (.br 75 .nil (.br 88 .nil (.br 97 .nil (.br 117 .nil (.br 110 .nil (.br 130 .nil (.br 123 .nil .nil))))))))) rfl rfl rfl rfl ?_
    simp only [leP, leE, leC, Ask.same, Ask.only, true_and, and_true, List.length_nil]
    simp +contextual [List.length_pos_iff]
  · refine FnOk.tree t117 (.br 63 .nil (.br 82 .nil (.br 75 .nil (.br 88 .nil (.br 97 .nil (.br 117 .nil (.br 110 .nil (.br 130 .nil (.br 123 .nil .nil))))))))) rfl rfl rfl rfl ?_
    simp only [leP, leE, leC, Ask.same, Ask.only, true_and, and_true, List.length_nil]
    simp +contextual [List.length_pos_iff]
  · refine FnOk.tree t117 (.br 63 .nil (.br 82 .nil (.br 75 .nil (.br 88 .nil (.br 97 .nil (.br 117 .nil (.br 110 .nil (.br 130 .nil (.br 123 .nil .nil))))))))) rfl rfl rfl rfl ?_
    simp only [leP, leE, leC, Ask.same, Ask.only, true_and, and_true, List.length_nil]
    simp +contextual [List.length_pos_iff]
  · refine FnOk.tree t117 (.br 51 .nil (.br 82 .nil (.br 75 .nil (.br 88 .nil (.br 97 .nil (.br 117 .nil (.br 110 .nil (.br 130 .nil (.br 123 .nil .nil))))))))) rfl rfl rfl rfl ?_
    simp only [leP, leE, leC, Ask.same, Ask.only, true_and, and_true, List.length_nil]
    simp +contextual [List.length_pos_iff]
  · refine FnOk.tree t117 (.br 51 .nil (.br 82 .nil (.br 75 .nil (.br 88 .nil (.br 97 .nil (.br 117 .nil (.br 110 .nil (.br 130 .nil (.br 123 .nil .nil))))))))) rfl rfl rfl rfl ?_
    simp only [leP, leE, leC, Ask.same, Ask.only, true_and, and_true, List.length_nil]
    simp +contextual [List.length_pos_iff]
  · refine FnOk.tree t117 (.br 63 .nil (.br 82 .nil (.br 75 .nil (.br 97 .nil (.br 117 .nil (.br 110 .nil (.br 130 .nil (.br 123 .nil .nil)))))))) rfl rfl rfl rfl ?_
    simp only [leP, leE, leC, Ask.same, Ask.only, true_and, and_true, List.length_nil]
    simp +contextual [List.length_pos_iff]
  · refine FnOk.tree t117 (.br 63 .nil (.br 82 .nil (.br 75 .nil (.br 88 .nil (.br 117 .nil (.br 110 .nil (.br 130 .nil (.br 123 .nil .nil)))))))) rfl rfl rfl rfl ?_
    simp only [leP, leE, leC, Ask.same, Ask.only, true_and, and_true, List.length_nil]
    simp +contextual [List.length_pos_iff]
  · refine FnOk.tree t117 (.br 51 .nil (.br 63 .nil (.br 88 .nil (.br 97 .nil (.br 117 .nil (.br 110 .nil (.br 130 .nil (.br 123 .nil .nil)))))))) rfl rfl rfl rfl ?_
    simp only [leP, leE, leC, Ask.same, Ask.only, true_and, and_true, List.length_nil]
    simp +contextual [List.length_pos_iff]
  · refine FnOk.tree t117 (.br 63 .nil (.br 82 .nil (.br 75 .nil (.br 88 .nil (.br 130 .nil (.br 123 .nil .nil)))))) rfl rfl rfl rfl ?_
    simp only [leP, leE, leC, Ask.same, Ask.only, true_and, and_true, List.length_nil]
    simp +contextual [List.length_pos_iff]
  · refine FnOk.tree t117 (.br 35 .nil (.br 51 .nil (.br 63 .nil (.br 82 .nil (.br 75 .nil (.br 88 .nil (.br 97 .nil (.br 117 .nil (.br 110 .nil .nil))))))))) rfl rfl rfl rfl ?_
    simp only [leP, leE, leC, Ask.same, Ask.only, true_and, and_true, List.length_nil]
    simp +contextual [List.length_pos_iff]
theorem rRight_ok {a : Ask} (h : a.Fit) : FnOk Tryz.prog 53 [a.v] [] (vB a.right) [] := by
  have hkn := rKnown_ok a.fn
  have hpl := rPlain_ok (a := a)
  have hp1 := place_ok a.at_
  have hp2 := place_ok a.ra
  have hm := rMost_ok a.fn
  have hb := byteful_ok a.obj
  obtain ⟨fn, at_, n, vl, an, og, bs, ws, ra, rn, cd, ob⟩ := a
  cases hk : known fn with
  | false =>
    simp only [hk] at hkn
    exact FnOk.tree t53 (.a (.lend [] (vB false)) .nil) rfl rfl rfl rfl (by simp [hkn, leP, leE, leC, Ask.right, hk])
  | true =>
  simp only [hk] at hkn
  replace hpl := hpl hk
  have hfn := of_decide_eq_true hk
  clear hk
  obtain ⟨S, hS⟩ : ∃ S, Ask.same (Ask.mk fn at_ n vl an og bs ws ra rn cd ob) = S := ⟨_, rfl⟩
  have hr : Ask.right (Ask.mk fn at_ n vl an og bs ws ra rn cd ob) = (known fn && (S && (placeB at_ && (placeB ra && Ask.rest (Ask.mk fn at_ n vl an og bs ws ra rn cd ob))))) := by rw [← hS]; rfl
  rw [hr]
  rw [hS] at hpl
  clear hr hS
  simp only at hfn hp1 hp2 hm hb
  rcases hfn with rfl | rfl | rfl | rfl | rfl | rfl | rfl | rfl | rfl | rfl | rfl
  · refine FnOk.tree t53 (.a (.lend [] (vB true)) (.a (.lend [] (vB S)) (.br 14 .nil (.a (.lend [] (vB (placeB at_))) (.br 20 .nil (.a (.lend [] (vB (placeB ra))) (.br 25 .nil (.a (.lend [] (.tup [.c (.t (.int .i64 2000)), .c (.t (.int .i64 0))])) (.br 42 .nil .nil))))))))) rfl rfl rfl rfl ?_
    simp [rMost] at hm
    simp only [leP, leE, leC, hkn, hpl, hp1, hp2, hm, hb, Ask.rest, true_and, and_true]
    simp +contextual [known, countsB, kMost, bytefulB]
    try (intros; omega)
  · refine FnOk.tree t53 (.a (.lend [] (vB true)) (.a (.lend [] (vB S)) (.br 14 .nil (.a (.lend [] (vB (placeB at_))) (.br 20 .nil (.a (.lend [] (vB (placeB ra))) (.br 25 .nil (.a (.lend [] (.tup [.c (.t (.int .i64 2000)), .c (.t (.int .i64 0))])) (.br 42 .nil .nil))))))))) rfl rfl rfl rfl ?_
    simp [rMost] at hm
    simp only [leP, leE, leC, hkn, hpl, hp1, hp2, hm, hb, Ask.rest, true_and, and_true]
    simp +contextual [known, countsB, kMost, bytefulB]
    try (intros; omega)
  · refine FnOk.tree t53 (.a (.lend [] (vB true)) (.a (.lend [] (vB S)) (.br 14 .nil (.a (.lend [] (vB (placeB at_))) (.br 20 .nil (.a (.lend [] (vB (placeB ra))) (.br 25 .nil (.a (.lend [] (.tup [.c (.t (.int .i64 125)), .c (.t (.int .i64 0))])) (.br 42 .nil .nil))))))))) rfl rfl rfl rfl ?_
    simp [rMost] at hm
    simp only [leP, leE, leC, hkn, hpl, hp1, hp2, hm, hb, Ask.rest, true_and, and_true]
    simp +contextual [known, countsB, kMost, bytefulB]
    try (intros; omega)
  · refine FnOk.tree t53 (.a (.lend [] (vB true)) (.a (.lend [] (vB S)) (.br 14 .nil (.a (.lend [] (vB (placeB at_))) (.br 20 .nil (.a (.lend [] (vB (placeB ra))) (.br 25 .nil (.a (.lend [] (.tup [.c (.t (.int .i64 125)), .c (.t (.int .i64 0))])) (.br 42 .nil .nil))))))))) rfl rfl rfl rfl ?_
    simp [rMost] at hm
    simp only [leP, leE, leC, hkn, hpl, hp1, hp2, hm, hb, Ask.rest, true_and, and_true]
    simp +contextual [known, countsB, kMost, bytefulB]
    try (intros; omega)
  · refine FnOk.tree t53 (.a (.lend [] (vB true)) (.a (.lend [] (vB S)) (.br 14 .nil (.a (.lend [] (vB (placeB at_))) (.br 20 .nil (.a (.lend [] (vB (placeB ra))) (.br 25 .nil (.a (.lend [] (.tup [.c (.t (.int .i64 0)), .c (.t (.int .i64 1))])) .nil)))))))) rfl rfl rfl rfl ?_
    simp [rMost] at hm
    simp only [leP, leE, leC, hkn, hpl, hp1, hp2, hm, hb, Ask.rest, true_and, and_true]
    simp +contextual [known, countsB, kMost, bytefulB]
    try (intros; omega)
  · refine FnOk.tree t53 (.a (.lend [] (vB true)) (.a (.lend [] (vB S)) (.br 14 .nil (.a (.lend [] (vB (placeB at_))) (.br 20 .nil (.a (.lend [] (vB (placeB ra))) (.br 25 .nil (.a (.lend [] (.tup [.c (.t (.int .i64 0)), .c (.t (.int .i64 1))])) .nil)))))))) rfl rfl rfl rfl ?_
    simp [rMost] at hm
    simp only [leP, leE, leC, hkn, hpl, hp1, hp2, hm, hb, Ask.rest, true_and, and_true]
    simp +contextual [known, countsB, kMost, bytefulB]
    try (intros; omega)
  · refine FnOk.tree t53 (.a (.lend [] (vB true)) (.a (.lend [] (vB S)) (.br 14 .nil (.a (.lend [] (vB (placeB at_))) (.br 20 .nil (.a (.lend [] (vB (placeB ra))) (.br 25 .nil (.a (.lend [] (.tup [.c (.t (.int .i64 0)), .c (.t (.int .i64 1968))])) (.br 58 (.br 64 .nil .nil) .nil))))))))) rfl rfl rfl rfl ?_
    simp [rMost] at hm
    simp only [leP, leE, leC, hkn, hpl, hp1, hp2, hm, hb, Ask.rest, true_and, and_true]
    simp +contextual [known, countsB, kMost, bytefulB]
    try (intros; omega)
  · refine FnOk.tree t53 (.a (.lend [] (vB true)) (.a (.lend [] (vB S)) (.br 14 .nil (.a (.lend [] (vB (placeB at_))) (.br 20 .nil (.a (.lend [] (vB (placeB ra))) (.br 25 .nil (.a (.lend [] (.tup [.c (.t (.int .i64 0)), .c (.t (.int .i64 123))])) (.br 77 (.br 83 .nil .nil) .nil))))))))) rfl rfl rfl rfl ?_
    simp [rMost] at hm
    simp only [leP, leE, leC, hkn, hpl, hp1, hp2, hm, hb, Ask.rest, true_and, and_true]
    simp +contextual [known, countsB, kMost, bytefulB]
    try (intros; omega)
  · refine FnOk.tree t53 (.a (.lend [] (vB true)) (.a (.lend [] (vB S)) (.br 14 .nil (.a (.lend [] (vB (placeB at_))) (.br 20 .nil (.a (.lend [] (vB (placeB ra))) (.br 25 .nil (.a (.lend [] (.tup [.c (.t (.int .i64 0)), .c (.t (.int .i64 1))])) .nil)))))))) rfl rfl rfl rfl ?_
    simp [rMost] at hm
    simp only [leP, leE, leC, hkn, hpl, hp1, hp2, hm, hb, Ask.rest, true_and, and_true]
    simp +contextual [known, countsB, kMost, bytefulB]
    try (intros; omega)
  · refine FnOk.tree t53 (.a (.lend [] (vB true)) (.a (.lend [] (vB S)) (.br 14 .nil (.a (.lend [] (vB (placeB at_))) (.br 20 .nil (.a (.lend [] (vB (placeB ra))) (.br 25 .nil (.a (.lend [] (.tup [.c (.t (.int .i64 125)), .c (.t (.int .i64 121))])) (.br 96 (.br 102 (.br 110 (.br 115 .nil .nil) .nil) .nil) .nil))))))))) rfl rfl rfl rfl ?_
    simp [rMost] at hm
    simp only [leP, leE, leC, hkn, hpl, hp1, hp2, hm, hb, Ask.rest, true_and, and_true]
    simp +contextual [known, countsB, kMost, bytefulB]
    try (intros; omega)
  · refine FnOk.tree t53 (.a (.lend [] (vB true)) (.a (.lend [] (vB S)) (.br 14 .nil (.a (.lend [] (vB (placeB at_))) (.br 20 .nil (.a (.lend [] (vB (placeB ra))) (.br 25 .nil (.a (.lend [] (.tup [.c (.t (.int .i64 0)), .c (.t (.int .i64 0))])) (.br 126 (.br 131 (.a (.lend [] (vB (bytefulB ob))) .nil) .nil) .nil))))))))) rfl rfl rfl rfl ?_
    simp [rMost] at hm
    simp only [leP, leE, leC, hkn, hpl, hp1, hp2, hm, hb, Ask.rest, true_and, and_true]
    simp +contextual [known, countsB, kMost, bytefulB]
    try (intros; omega)
end Go.Proofs.YthddlkhfkncgpaaGreat
