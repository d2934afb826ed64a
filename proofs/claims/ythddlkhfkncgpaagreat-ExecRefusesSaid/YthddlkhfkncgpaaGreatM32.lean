/-
  When a reply may be.
-/
import Derived.Test.YthddlkhfkncgpaaGreatM31
set_option maxRecDepth 100000
set_option maxHeartbeats 4000000
set_option linter.unusedVariables false
set_option linter.unusedSimpArgs false
namespace Go.Proofs.YthddlkhfkncgpaaGreat
open Go.RowKit

def tEq (a b : Tell) : Bool := (a.at_ == b.at_) && ((a.n == b.n) && ((a.val == b.val) && ((a.and_ == b.and_) && ((a.or_ == b.or_) && ((a.code == b.code) && ((a.level == b.level) && ((one a.more == one b.more) && ((a.next == b.next) && (((a.bits.length : Int) == b.bits.length) && (((a.words.length : Int) == b.words.length) && (((a.objs.length : Int) == b.objs.length) && true)))))))))))
def Tell.rest (a : Tell) : Bool :=
  if a.fn = 1 ∨ a.fn = 2 then countsB a.bits.length 2000
  else if a.fn = 3 ∨ a.fn = 4 ∨ a.fn = 23 then countsB a.words.length 125
  else if a.fn = 5 then decide (a.val ≤ 1)
  else if a.fn = 15 then countsB a.n 1968
  else if a.fn = 16 then countsB a.n 123
  else if a.fn = 43 then countsB a.code 4 && (bytefulB a.level && (bytefulB a.next && objsOk 7 a.objs))
  else true
/-- May the reply be? -/
def Tell.right (a : Tell) : Bool := if a.exc = 0 then known a.fn && (tEq a a.only && (placeB a.at_ && a.rest)) else failingB a.exc && (bytefulB a.fn && tEq a {})
theorem tFit0 : Tell.Fit {} := ⟨by simp [b64], by simp [b64], by simp, by simp, wrd_nil, by simp [b64], by simp [b64], by simp, by simp, by simp, by simp [b64], by simp [b64], by simp [b64], by simp, fun o h => (nomatch h)⟩
theorem tOnly_fit {a : Tell} (h : a.Fit) : a.only.Fit := by
  obtain ⟨h1, h2, h3, h4, h5, h6, h7, h8, h9, h10, h11, h12, h13, h14, h15⟩ := h
  have z : b64 0 := by omega
  have z2 : (0 : Int) ≤ 0 ∧ (0 : Int) ≤ 65535 := by omega
  have e : ([] : List Bool).length ≤ 1000000000000 := by simp
  have e2 : ([] : List Int).length ≤ 1000000000000 := by simp
  have e3 : ([] : List Obj).length ≤ 1000000000000 := by simp
  have e4 : ∀ o ∈ ([] : List Obj), b64 o.1 ∧ o.2.size ≤ 1000000 := fun o h => (nomatch h)
  unfold Tell.only
  split
  · exact ⟨h1, z, h3, e2, wrd_nil, z, z, z2, z2, z2, z, z, z, e3, e4⟩
  split
  · exact ⟨h1, z, e, h4, h5, z, z, z2, z2, z2, z, z, z, e3, e4⟩
  split
  · exact ⟨h1, z, e, e2, wrd_nil, h6, z, h8, z2, z2, z, z, z, e3, e4⟩
  split
  · exact ⟨h1, z, e, e2, wrd_nil, h6, h7, z2, z2, z2, z, z, z, e3, e4⟩
  split
  · exact ⟨h1, z, e, e2, wrd_nil, h6, z, z2, h9, h10, z, z, z, e3, e4⟩
  split
  · exact ⟨h1, z, e, e2, wrd_nil, z, z, z2, z2, z2, h11, h12, h13, h14, h15⟩
  · exact ⟨h1, z, e, e2, wrd_nil, z, z, z2, z2, z2, z, z, z, e3, e4⟩
theorem tRight_ok {a : Tell} (hf : a.Fit) : FnOk Tryz.prog 160 [a.v] [] (vB a.right) [] := by
  have hk := kKnown_ok a.fn
  have hn := tNumbers_ok hf
  have ho := tOnly_ok a
  have hno := tNumbers_ok (tOnly_fit hf)
  have hz := tNumbers_ok tFit0
  have hx := exception_ok a.exc
  have hB := isByte_ok a.fn
  have hm := kMost_ok a.fn
  have hob := objects_ok hf.objs hf.oid
  have hB1 := isByte_ok a.level
  have hB2 := isByte_ok a.next
  obtain ⟨fn, exc, bs, ws, at_, n, vl, an, og, cd, lv, mo, nx, os⟩ := a
  simp only at hk hx hB hm hob hB1 hB2
  by_cases he : exc = 0
  case neg =>
    refine FnOk.tree t160 (.a (.b 7 true) (.f [] hx (.br 11 (.f [] hB (.br 16 (.f [] hn (.f [] hz .nil)) .nil)) .nil))) rfl rfl rfl rfl ?_
    simp +contextual [leVs, leP, leE, leL, leC, Tell.right, he, tEq]
  subst he
  cases hkk : known fn with
  | false =>
    rw [hkk] at hk
    exact FnOk.tree t160 (.a (.b 7 false) (.f [] hk .nil)) rfl rfl rfl rfl (by simp [leVs, leP, leE, leL, leC, Tell.right, hkk])
  | true =>
  rw [hkk] at hk
  have hfn := of_decide_eq_true hkk
  clear hkk hx hB hz
  rcases hfn with rfl | rfl | rfl | rfl | rfl | rfl | rfl | rfl | rfl | rfl | rfl
  · simp [kMost] at hm
    have hc := tCounts_ok bs.length 2000
    refine FnOk.tree t160 (.a (.b 7 false) (.f [] hk (.f [] hn (.f [] ho (.f [] hno (.br 35 .nil (.br 40 .nil (.br 44 .nil (.f [] hm (.f [] hc .nil)))))))))) rfl rfl rfl rfl ?_
    simp +contextual [leVs, leP, leE, leL, leC, Tell.right, Tell.only, Tell.rest, tEq, known, placeB]
    all_goals (repeat' (first | omega | (intro _) | apply And.intro | apply Iff.intro))
    all_goals (try simp_all)
  · simp [kMost] at hm
    have hc := tCounts_ok bs.length 2000
    refine FnOk.tree t160 (.a (.b 7 false) (.f [] hk (.f [] hn (.f [] ho (.f [] hno (.br 35 .nil (.br 40 .nil (.br 44 .nil (.f [] hm (.f [] hc .nil)))))))))) rfl rfl rfl rfl ?_
    simp +contextual [leVs, leP, leE, leL, leC, Tell.right, Tell.only, Tell.rest, tEq, known, placeB]
    all_goals (repeat' (first | omega | (intro _) | apply And.intro | apply Iff.intro))
    all_goals (try simp_all)
  · simp [kMost] at hm
    have hc := tCounts_ok ws.length 125
    refine FnOk.tree t160 (.a (.b 7 false) (.f [] hk (.f [] hn (.f [] ho (.f [] hno (.br 35 .nil (.br 40 .nil (.br 44 .nil (.f [] hm (.f [] hc .nil)))))))))) rfl rfl rfl rfl ?_
    simp +contextual [leVs, leP, leE, leL, leC, Tell.right, Tell.only, Tell.rest, tEq, known, placeB]
    all_goals (repeat' (first | omega | (intro _) | apply And.intro | apply Iff.intro))
    all_goals (try simp_all)
  · simp [kMost] at hm
    have hc := tCounts_ok ws.length 125
    refine FnOk.tree t160 (.a (.b 7 false) (.f [] hk (.f [] hn (.f [] ho (.f [] hno (.br 35 .nil (.br 40 .nil (.br 44 .nil (.f [] hm (.f [] hc .nil)))))))))) rfl rfl rfl rfl ?_
    simp +contextual [leVs, leP, leE, leL, leC, Tell.right, Tell.only, Tell.rest, tEq, known, placeB]
    all_goals (repeat' (first | omega | (intro _) | apply And.intro | apply Iff.intro))
    all_goals (try simp_all)
  · simp [kMost] at hm
    refine FnOk.tree t160 (.a (.b 7 false) (.f [] hk (.f [] hn (.f [] ho (.f [] hno (.br 35 .nil (.br 40 .nil (.br 44 .nil (.f [] hm .nil))))))))) rfl rfl rfl rfl ?_
    simp +contextual [leVs, leP, leE, leL, leC, Tell.right, Tell.only, Tell.rest, tEq, known, placeB]
    all_goals (repeat' (first | omega | (intro _) | apply And.intro | apply Iff.intro))
    all_goals (try simp_all)
  · simp [kMost] at hm
    refine FnOk.tree t160 (.a (.b 7 false) (.f [] hk (.f [] hn (.f [] ho (.f [] hno (.br 35 .nil (.br 40 .nil (.br 44 .nil (.f [] hm .nil))))))))) rfl rfl rfl rfl ?_
    simp +contextual [leVs, leP, leE, leL, leC, Tell.right, Tell.only, Tell.rest, tEq, known, placeB]
    all_goals (repeat' (first | omega | (intro _) | apply And.intro | apply Iff.intro))
    all_goals (try simp_all)
  · simp [kMost] at hm
    have hc := tCounts_ok n 1968
    refine FnOk.tree t160 (.a (.b 7 false) (.f [] hk (.f [] hn (.f [] ho (.f [] hno (.br 35 .nil (.br 40 .nil (.br 44 .nil (.f [] hm (.f [] hc .nil)))))))))) rfl rfl rfl rfl ?_
    simp +contextual [leVs, leP, leE, leL, leC, Tell.right, Tell.only, Tell.rest, tEq, known, placeB]
    all_goals (repeat' (first | omega | (intro _) | apply And.intro | apply Iff.intro))
    all_goals (try simp_all)
  · simp [kMost] at hm
    have hc := tCounts_ok n 123
    refine FnOk.tree t160 (.a (.b 7 false) (.f [] hk (.f [] hn (.f [] ho (.f [] hno (.br 35 .nil (.br 40 .nil (.br 44 .nil (.f [] hm (.f [] hc .nil)))))))))) rfl rfl rfl rfl ?_
    simp +contextual [leVs, leP, leE, leL, leC, Tell.right, Tell.only, Tell.rest, tEq, known, placeB]
    all_goals (repeat' (first | omega | (intro _) | apply And.intro | apply Iff.intro))
    all_goals (try simp_all)
  · simp [kMost] at hm
    refine FnOk.tree t160 (.a (.b 7 false) (.f [] hk (.f [] hn (.f [] ho (.f [] hno (.br 35 .nil (.br 40 .nil (.br 44 .nil (.f [] hm .nil))))))))) rfl rfl rfl rfl ?_
    simp +contextual [leVs, leP, leE, leL, leC, Tell.right, Tell.only, Tell.rest, tEq, known, placeB]
    all_goals (repeat' (first | omega | (intro _) | apply And.intro | apply Iff.intro))
    all_goals (try simp_all)
  · simp [kMost] at hm
    have hc := tCounts_ok ws.length 125
    refine FnOk.tree t160 (.a (.b 7 false) (.f [] hk (.f [] hn (.f [] ho (.f [] hno (.br 35 .nil (.br 40 .nil (.br 44 .nil (.f [] hm (.f [] hc .nil)))))))))) rfl rfl rfl rfl ?_
    simp +contextual [leVs, leP, leE, leL, leC, Tell.right, Tell.only, Tell.rest, tEq, known, placeB]
    all_goals (repeat' (first | omega | (intro _) | apply And.intro | apply Iff.intro))
    all_goals (try simp_all)
  · simp [kMost] at hm
    have hc := tCounts_ok cd 4
    refine FnOk.tree t160 (.a (.b 7 false) (.f [] hk (.f [] hn (.f [] ho (.f [] hno (.br 35 .nil (.br 40 .nil (.br 44 .nil (.f [] hm (.f [] hc (.br 87 (.f [] hB1 (.br 92 (.f [] hB2 (.br 97 (.f [] hob .nil) .nil)) .nil)) .nil))))))))))) rfl rfl rfl rfl ?_
    simp +contextual [leVs, leP, leE, leL, leC, Tell.right, Tell.only, Tell.rest, tEq, known, placeB]
    all_goals (repeat' (first | omega | (intro _) | apply And.intro | apply Iff.intro))
    all_goals (try simp_all)
theorem bare_ok {a : Tell} (h : a.exc ≠ 0 ∨ known a.fn = true) : FnOk Tryz.prog 212 [a.v] [] (vB (if a.exc = 0 then tEq a a.only else tEq a {})) [] := by
  obtain ⟨fn, exc, bs, ws, at_, n, vl, an, og, cd, lv, mo, nx, os⟩ := a
  simp only at h ⊢
  by_cases he : exc = 0
  case neg =>
    rw [if_neg he]
    refine FnOk.tree t212 (.a (.b 10 true) (.a (.b 30 true) (.a (.b 34 true) (.br 27 .nil (.a (.b 43 true) (.a (.b 47 true) (.a (.b 51 true) (.br 40 .nil (.br 69 .nil (.br 57 .nil (.a (.b 81 true) (.a (.b 85 true) (.br 78 .nil (.a (.b 93 true) (.br 97 .nil (.br 90 .nil (.a (.b 106 true) (.br 110 .nil (.br 115 .nil (.br 119 .nil (.br 124 .nil (.br 103 .nil .nil)))))))))))))))))))))) rfl rfl rfl rfl ?_
    simp +contextual [leP, leE, leC, tEq, he, List.length_pos_iff, one]
    all_goals (repeat (first | omega | (intro _) | apply And.intro | apply Iff.intro))
  subst he
  rw [if_pos rfl]
  have hfn := of_decide_eq_true (h.resolve_left (by simp))
  rcases hfn with rfl | rfl | rfl | rfl | rfl | rfl | rfl | rfl | rfl | rfl | rfl
  · refine FnOk.tree t212 (.a (.b 10 false) (.a (.b 30 false) (.a (.b 43 true) (.a (.b 47 true) (.a (.b 51 true) (.br 40 .nil (.br 69 .nil (.br 57 .nil (.a (.b 81 true) (.a (.b 85 true) (.br 78 .nil (.a (.b 93 true) (.br 97 .nil (.br 90 .nil (.a (.b 106 true) (.br 110 .nil (.br 115 .nil (.br 119 .nil (.br 124 .nil (.br 103 .nil .nil)))))))))))))))))))) rfl rfl rfl rfl ?_
    simp +contextual [leP, leE, leC, tEq, Tell.only, List.length_pos_iff, one]
    all_goals (repeat (first | omega | (intro _) | apply And.intro | apply Iff.intro))
  · refine FnOk.tree t212 (.a (.b 10 false) (.a (.b 30 true) (.a (.b 34 false) (.a (.b 43 true) (.a (.b 47 true) (.a (.b 51 true) (.br 40 .nil (.br 69 .nil (.br 57 .nil (.a (.b 81 true) (.a (.b 85 true) (.br 78 .nil (.a (.b 93 true) (.br 97 .nil (.br 90 .nil (.a (.b 106 true) (.br 110 .nil (.br 115 .nil (.br 119 .nil (.br 124 .nil (.br 103 .nil .nil))))))))))))))))))))) rfl rfl rfl rfl ?_
    simp +contextual [leP, leE, leC, tEq, Tell.only, List.length_pos_iff, one]
    all_goals (repeat (first | omega | (intro _) | apply And.intro | apply Iff.intro))
  · refine FnOk.tree t212 (.a (.b 10 false) (.a (.b 30 true) (.a (.b 34 true) (.br 27 .nil (.a (.b 43 false) (.br 69 .nil (.br 57 .nil (.a (.b 81 true) (.a (.b 85 true) (.br 78 .nil (.a (.b 93 true) (.br 97 .nil (.br 90 .nil (.a (.b 106 true) (.br 110 .nil (.br 115 .nil (.br 119 .nil (.br 124 .nil (.br 103 .nil .nil))))))))))))))))))) rfl rfl rfl rfl ?_
    simp +contextual [leP, leE, leC, tEq, Tell.only, List.length_pos_iff, one]
    all_goals (repeat (first | omega | (intro _) | apply And.intro | apply Iff.intro))
  · refine FnOk.tree t212 (.a (.b 10 false) (.a (.b 30 true) (.a (.b 34 true) (.br 27 .nil (.a (.b 43 true) (.a (.b 47 false) (.br 69 .nil (.br 57 .nil (.a (.b 81 true) (.a (.b 85 true) (.br 78 .nil (.a (.b 93 true) (.br 97 .nil (.br 90 .nil (.a (.b 106 true) (.br 110 .nil (.br 115 .nil (.br 119 .nil (.br 124 .nil (.br 103 .nil .nil)))))))))))))))))))) rfl rfl rfl rfl ?_
    simp +contextual [leP, leE, leC, tEq, Tell.only, List.length_pos_iff, one]
    all_goals (repeat (first | omega | (intro _) | apply And.intro | apply Iff.intro))
  · refine FnOk.tree t212 (.a (.b 10 false) (.a (.b 30 true) (.a (.b 34 true) (.br 27 .nil (.a (.b 43 true) (.a (.b 47 true) (.a (.b 51 true) (.br 40 .nil (.br 57 .nil (.a (.b 81 false) (.a (.b 93 true) (.br 97 .nil (.br 90 .nil (.a (.b 106 true) (.br 110 .nil (.br 115 .nil (.br 119 .nil (.br 124 .nil (.br 103 .nil .nil))))))))))))))))))) rfl rfl rfl rfl ?_
    simp +contextual [leP, leE, leC, tEq, Tell.only, List.length_pos_iff, one]
    all_goals (repeat (first | omega | (intro _) | apply And.intro | apply Iff.intro))
  · refine FnOk.tree t212 (.a (.b 10 false) (.a (.b 30 true) (.a (.b 34 true) (.br 27 .nil (.a (.b 43 true) (.a (.b 47 true) (.a (.b 51 true) (.br 40 .nil (.br 57 .nil (.a (.b 81 true) (.a (.b 85 false) (.a (.b 93 true) (.br 97 .nil (.br 90 .nil (.a (.b 106 true) (.br 110 .nil (.br 115 .nil (.br 119 .nil (.br 124 .nil (.br 103 .nil .nil)))))))))))))))))))) rfl rfl rfl rfl ?_
    simp +contextual [leP, leE, leC, tEq, Tell.only, List.length_pos_iff, one]
    all_goals (repeat (first | omega | (intro _) | apply And.intro | apply Iff.intro))
  · refine FnOk.tree t212 (.a (.b 10 false) (.a (.b 30 true) (.a (.b 34 true) (.br 27 .nil (.a (.b 43 true) (.a (.b 47 true) (.a (.b 51 true) (.br 40 .nil (.a (.b 81 true) (.a (.b 85 true) (.br 78 .nil (.a (.b 93 true) (.br 97 .nil (.br 90 .nil (.a (.b 106 true) (.br 110 .nil (.br 115 .nil (.br 119 .nil (.br 124 .nil (.br 103 .nil .nil)))))))))))))))))))) rfl rfl rfl rfl ?_
    simp +contextual [leP, leE, leC, tEq, Tell.only, List.length_pos_iff, one]
    all_goals (repeat (first | omega | (intro _) | apply And.intro | apply Iff.intro))
  · refine FnOk.tree t212 (.a (.b 10 false) (.a (.b 30 true) (.a (.b 34 true) (.br 27 .nil (.a (.b 43 true) (.a (.b 47 true) (.a (.b 51 true) (.br 40 .nil (.a (.b 81 true) (.a (.b 85 true) (.br 78 .nil (.a (.b 93 true) (.br 97 .nil (.br 90 .nil (.a (.b 106 true) (.br 110 .nil (.br 115 .nil (.br 119 .nil (.br 124 .nil (.br 103 .nil .nil)))))))))))))))))))) rfl rfl rfl rfl ?_
    simp +contextual [leP, leE, leC, tEq, Tell.only, List.length_pos_iff, one]
    all_goals (repeat (first | omega | (intro _) | apply And.intro | apply Iff.intro))
  · refine FnOk.tree t212 (.a (.b 10 false) (.a (.b 30 true) (.a (.b 34 true) (.br 27 .nil (.a (.b 43 true) (.a (.b 47 true) (.a (.b 51 true) (.br 40 .nil (.br 57 .nil (.a (.b 81 true) (.a (.b 85 true) (.br 78 .nil (.a (.b 93 false) (.a (.b 106 true) (.br 110 .nil (.br 115 .nil (.br 119 .nil (.br 124 .nil (.br 103 .nil .nil))))))))))))))))))) rfl rfl rfl rfl ?_
    simp +contextual [leP, leE, leC, tEq, Tell.only, List.length_pos_iff, one]
    all_goals (repeat (first | omega | (intro _) | apply And.intro | apply Iff.intro))
  · refine FnOk.tree t212 (.a (.b 10 false) (.a (.b 30 true) (.a (.b 34 true) (.br 27 .nil (.a (.b 43 true) (.a (.b 47 true) (.a (.b 51 false) (.br 69 .nil (.br 57 .nil (.a (.b 81 true) (.a (.b 85 true) (.br 78 .nil (.a (.b 93 true) (.br 97 .nil (.br 90 .nil (.a (.b 106 true) (.br 110 .nil (.br 115 .nil (.br 119 .nil (.br 124 .nil (.br 103 .nil .nil))))))))))))))))))))) rfl rfl rfl rfl ?_
    simp +contextual [leP, leE, leC, tEq, Tell.only, List.length_pos_iff, one]
    all_goals (repeat (first | omega | (intro _) | apply And.intro | apply Iff.intro))
  · refine FnOk.tree t212 (.a (.b 10 false) (.a (.b 30 true) (.a (.b 34 true) (.br 27 .nil (.a (.b 43 true) (.a (.b 47 true) (.a (.b 51 true) (.br 40 .nil (.br 69 .nil (.br 57 .nil (.a (.b 81 true) (.a (.b 85 true) (.br 78 .nil (.a (.b 93 true) (.br 97 .nil (.br 90 .nil (.a (.b 106 false) .nil))))))))))))))))) rfl rfl rfl rfl ?_
    simp +contextual [leP, leE, leC, tEq, Tell.only, List.length_pos_iff, one]
    all_goals (repeat (first | omega | (intro _) | apply And.intro | apply Iff.intro))
end Go.Proofs.YthddlkhfkncgpaaGreat
