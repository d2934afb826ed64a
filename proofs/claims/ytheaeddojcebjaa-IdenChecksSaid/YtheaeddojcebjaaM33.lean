/-
  The document's Tells.
-/
import Derived.Test.YtheaeddojcebjaaM32
set_option maxRecDepth 100000
set_option maxHeartbeats 4000000
set_option linter.unusedVariables false
set_option linter.unusedSimpArgs false
namespace Go.Proofs.Ytheaeddojcebjaa
open Go.RowKit

theorem rObjects_ok {a : Tell} (hf : a.Fit) : FnOk Try.prog 111 [a.v] [] (vB (countsB a.code 4 && (bytefulB a.level && (bytefulB a.next && objsOk 7 a.objs)))) [] := by
  have hB1 := byteful_ok a.level
  have hB2 := byteful_ok a.next
  by_cases hc : 1 ≤ a.code ∧ a.code ≤ 4
  case neg =>
    have e : countsB a.code 4 = false := decide_eq_false hc
    rw [e]
    by_cases h1 : a.code < 1
    · exact FnOk.tree t111 (.a (.b 8 true) (.a (.b 13 true) (.a (.b 19 true) .nil))) rfl rfl rfl rfl (by simp [leP, leE, leC, h1])
    · exact FnOk.tree t111 (.a (.b 8 false) (.a (.b 13 true) (.a (.b 19 true) .nil))) rfl rfl rfl rfl (by simp [leP, leE, leC]; omega)
  have e : countsB a.code 4 = true := decide_eq_true hc
  rw [e]
  cases h1 : bytefulB a.level with
  | false =>
    rw [h1] at hB1
    exact FnOk.tree t111 (.a (.b 8 false) (.a (.b 13 false) (.f [] hB1 (.a (.b 19 true) .nil)))) rfl rfl rfl rfl (by simp [leVs, leP, leE, leC]; omega)
  | true =>
  rw [h1] at hB1
  cases h2 : bytefulB a.next with
  | false =>
    rw [h2] at hB2
    exact FnOk.tree t111 (.a (.b 8 false) (.a (.b 13 false) (.f [] hB1 (.a (.b 19 false) (.f [] hB2 .nil))))) rfl rfl rfl rfl (by simp [leVs, leP, leE, leC]; omega)
  | true =>
  rw [h2] at hB2
  refine FnOk.start t111 rfl rfl rfl ?_
  refine Tri.seq (Tri.go [] rfl trivial ?_)
  refine Tri.seq (Tri.tree (.a (.b 8 false) (.a (.b 13 false) (.f [] hB1 (.a (.b 19 false) (.f [] hB2 .nil))))) rfl ⟨by simp; omega, by simp; omega, trivial, by simp [leVs, leP, leE, leC], by simp, trivial, by simp [leVs, leP, leE, leC], ?_⟩)
  refine Tri.seq (Tri.go [] rfl trivial ?_)
  refine Tri.seq (Tri.seq (Tri.go [] rfl trivial ?_))
  refine Tri.block ?_
  have hl := hf.objs
  refine Tri.lp (fun q ρ hl => ∃ i n, q = a.objs.length - i ∧ i ≤ a.objs.length ∧ (0 ≤ n ∧ n ≤ 253) ∧ objsOk 7 a.objs = objsOk n (a.objs.drop i) ∧ hl = [.box a.cs] ∧ keepE ρ [1, 3, 4] = some [(1, vC (.ptr 0 0)), (3, vI .i64 n), (4, vI .i64 i)]) a.objs.length ⟨0, 7, by omega, by omega, by omega, rfl, rfl, keep_of rfl (by simp)⟩ ?_
  rintro q ρ hl' ⟨i, n, rfl, hi, hn, he, rfl, hkk⟩
  refine Tri.keep _ hkk ?_
  by_cases h : i < a.objs.length
  · have hg := oRows_get h
    obtain ⟨ho1, ho2⟩ := hf.oid a.objs[i] (List.getElem_mem h)
    have hd : a.objs.drop i = a.objs[i] :: a.objs.drop (i + 1) := List.drop_eq_getElem_cons h
    rw [hd] at he
    have hb := byteful_ok a.objs[i].1
    simp only [objsOk] at he
    generalize a.objs[i] = o at *
    obtain ⟨o1, o2⟩ := o
    simp only at he hb ho1 ho2 hg
    cases hB : bytefulB o1 with
    | false =>
      rw [hB] at hb he
      simp at he
      refine Tri.tree (.a (.b 29 true) (.a (.at [.int .i64 o1, .str o2]) (.f [] hb (.a (.b 49 true) .nil)))) rfl ?_
      refine ⟨by simp; omega, ⟨by omega, rfl, hg⟩, trivial, by simp [leVs, leP, leE, leC], by simp, ?_⟩
      rw [he]
      exact RetQ.of [] [] rfl trivial (.refl _) rfl
    | true =>
      rw [hB] at hb he
      by_cases h3 : o2.size ≤ 253
      case neg =>
        have : objsOk n ((o1, o2) :: a.objs.drop (i + 1)) = false := by simp [objsOk]; omega
        simp [show ¬ (n + 2 + (o2.size : Int) ≤ 253) by omega] at he
        refine Tri.tree (.a (.b 29 true) (.a (.at [.int .i64 o1, .str o2]) (.f [] hb (.a (.b 40 false) (.a (.at [.int .i64 o1, .str o2]) (.a (.b 49 true) .nil)))))) rfl ?_
        refine ⟨by simp; omega, ⟨by omega, rfl, hg⟩, trivial, by simp [leVs, leP, leE, leC], by simp, ⟨by omega, rfl, hg⟩, by simp; omega, ?_⟩
        rw [he]
        exact RetQ.of [] [] rfl trivial (.refl _) rfl
      by_cases h4 : n + 2 + o2.size ≤ 253
      case neg =>
        simp [h4] at he
        refine Tri.tree (.a (.b 29 true) (.a (.at [.int .i64 o1, .str o2]) (.f [] hb (.a (.b 40 false) (.a (.at [.int .i64 o1, .str o2]) (.a (.b 49 false) (.a (.at [.int .i64 o1, .str o2]) (.a (.b 61 true) .nil)))))))) rfl ?_
        refine ⟨by simp; omega, ⟨by omega, rfl, hg⟩, trivial, by simp [leVs, leP, leE, leC], by simp, ⟨by omega, rfl, hg⟩, by simp; omega, by omega, ⟨by omega, rfl, hg⟩, by omega, by simp; omega, ?_⟩
        rw [he]
        exact RetQ.of [] [] rfl trivial (.refl _) rfl
      simp [h4] at he
      refine Tri.tree (.a (.b 29 true) (.a (.at [.int .i64 o1, .str o2]) (.f [] hb (.a (.b 40 false) (.a (.at [.int .i64 o1, .str o2]) (.a (.b 49 false) (.a (.at [.int .i64 o1, .str o2]) (.a (.b 61 false) .nil)))))))) rfl ?_
      refine ⟨by simp; omega, ⟨by omega, rfl, hg⟩, trivial, by simp [leVs, leP, leE, leC], by simp, ⟨by omega, rfl, hg⟩, by simp; omega, by omega, ⟨by omega, rfl, hg⟩, by omega, by simp; omega, by omega, again (a.objs.length - (i + 1)) (by omega) ⟨i + 1, n + 2 + o2.size, rfl, by omega, by omega, he, rfl, keep_of rfl (by simp)⟩⟩
  · have : a.objs.drop i = [] := List.drop_eq_nil_of_le (by omega)
    rw [this] at he
    rw [he]
    refine Tri.go [.b 29 false] rfl ⟨by simp; omega, trivial⟩ (outQ ?_)
    exact Tri.treeR .nil rfl (by simp [leP, leE, leC, objsOk])
theorem bareU_ok {a : Tell} (he : a.exc = 0) (hk : known a.fn = false) : ∃ S, FnOk Try.prog 108 [a.v] [] (vB S) [] := by
  have hk' := of_decide_eq_false hk
  simp only [not_or] at hk'
  obtain ⟨k1, k2, k3, k4, k5, k6, k15, k16, k22, k23, k43⟩ := hk'
  obtain ⟨fn, exc, bs, ws, at_, n, vl, an, og, cd, lv, mo, nx, os⟩ := a
  simp only at he k1 k2 k3 k4 k5 k6 k15 k16 k22 k23 k43
  subst he
  clear hk
  refine ⟨tEq (Tell.mk fn 0 bs ws at_ n vl an og cd lv mo nx os) {}, ?_⟩
  refine FnOk.tree t108 (.a (.b 10 false) (.a (.b 13 false) (.a (.b 17 false) (.a (.b 23 false) (.a (.b 30 true) (.a (.b 34 true) (.br 27 .nil (.a (.b 43 true) (.a (.b 47 true) (.a (.b 51 true) (.br 40 .nil (.a (.b 60 true) (.a (.b 64 true) (.br 69 .nil (.a (.b 72 true) (.br 57 .nil (.a (.b 81 true) (.a (.b 85 true) (.br 78 .nil (.a (.b 93 true) (.br 97 .nil (.br 90 .nil (.a (.b 106 true) (.br 110 .nil (.br 115 .nil (.br 119 .nil (.br 124 .nil (.br 103 .nil .nil)))))))))))))))))))))))))))) rfl rfl rfl rfl ?_
  simp +contextual [leP, leE, leC, tEq, List.length_pos_iff, one, *]
  all_goals (repeat' (first | omega | (intro _) | apply And.intro | apply Iff.intro))
  all_goals (try simp_all)
theorem tells6_ok {a : Tell} (hf : a.Fit) : FnOk Try.prog 57 [a.v] [] (vB a.right) [] := by
  have hm := rMost_ok a.fn
  have hx := failing_ok a.exc
  have hB := byteful_ok a.fn
  have hp := place_ok a.at_
  have hob := rObjects_ok hf
  by_cases he : a.exc = 0
  case neg =>
    have hb := bare_ok (a := a) (.inl he)
    rw [if_neg he] at hb
    have e : a.right = (failingB a.exc && (bytefulB a.fn && tEq a {})) := if_neg he
    rw [e]
    generalize tEq a {} = S at *
    refine FnOk.tree t57 (.f [] hb (.br 7 .nil (.a (.b 10 true) (.f [] hx (.br 14 (.f [] hB .nil) .nil))))) rfl rfl rfl rfl ?_
    simp +contextual [leVs, leP, leE, leL, leC, he]
    all_goals (repeat' (first | omega | (intro _) | apply And.intro | apply Iff.intro))
  cases hk : known a.fn with
  | false =>
    have e : a.right = false := by rw [Tell.right, if_pos he, hk]; rfl
    rw [e]
    obtain ⟨S, hb⟩ := bareU_ok he hk
    have hk' := of_decide_eq_false hk
    simp only [not_or] at hk'
    obtain ⟨k1, k2, k3, k4, k5, k6, k15, k16, k22, k23, k43⟩ := hk'
    obtain ⟨fn, exc, bs, ws, at_, n, vl, an, og, cd, lv, mo, nx, os⟩ := a
    simp only at he k1 k2 k3 k4 k5 k6 k15 k16 k22 k23 k43
    subst he
    simp [rMost, *] at hm
    refine FnOk.tree t57 (.f [] hb (.br 7 .nil (.a (.b 10 false) (.f [] hm (.a (.b 27 false) (.a (.b 27 false) (.a (.b 40 false) (.a (.b 40 false) (.a (.b 40 false) (.a (.b 54 false) (.a (.b 64 false) (.a (.b 64 false) (.a (.b 70 false) (.a (.b 70 false) (.a (.b 87 false) .nil))))))))))))))) rfl rfl rfl rfl ?_
    simp +contextual [leVs, leP, leE, leL, leC, *]
  | true =>
  have hb := bare_ok (a := a) (.inr hk)
  rw [if_pos he] at hb
  have e : a.right = (tEq a a.only && (placeB a.at_ && a.rest)) := by rw [Tell.right, if_pos he, hk]; rfl
  rw [e]
  have hS : tEq a a.only = true → a.at_ = a.only.at_ := by simp +contextual [tEq]
  generalize tEq a a.only = S at *
  have hfn := of_decide_eq_true hk
  obtain ⟨fn, exc, bs, ws, at_, n, vl, an, og, cd, lv, mo, nx, os⟩ := a
  simp only at he hfn
  subst he
  rcases hfn with rfl | rfl | rfl | rfl | rfl | rfl | rfl | rfl | rfl | rfl | rfl
  · simp [rMost] at hm
    simp [Tell.only] at hS
    refine FnOk.tree t57 (.f [] hb (.br 7 .nil (.a (.b 10 false) (.f [] hm (.br 34 .nil .nil))))) rfl rfl rfl rfl ?_
    simp +contextual [leVs, leP, leE, leL, leC, Tell.rest, countsB, placeB]
    all_goals (repeat' (first | omega | (intro _) | apply And.intro | apply Iff.intro))
    all_goals (try simp_all)
  · simp [rMost] at hm
    simp [Tell.only] at hS
    refine FnOk.tree t57 (.f [] hb (.br 7 .nil (.a (.b 10 false) (.f [] hm (.br 34 .nil .nil))))) rfl rfl rfl rfl ?_
    simp +contextual [leVs, leP, leE, leL, leC, Tell.rest, countsB, placeB]
    all_goals (repeat' (first | omega | (intro _) | apply And.intro | apply Iff.intro))
    all_goals (try simp_all)
  · simp [rMost] at hm
    simp [Tell.only] at hS
    refine FnOk.tree t57 (.f [] hb (.br 7 .nil (.a (.b 10 false) (.f [] hm (.br 48 .nil .nil))))) rfl rfl rfl rfl ?_
    simp +contextual [leVs, leP, leE, leL, leC, Tell.rest, countsB, placeB]
    all_goals (repeat' (first | omega | (intro _) | apply And.intro | apply Iff.intro))
    all_goals (try simp_all)
  · simp [rMost] at hm
    simp [Tell.only] at hS
    refine FnOk.tree t57 (.f [] hb (.br 7 .nil (.a (.b 10 false) (.f [] hm (.br 48 .nil .nil))))) rfl rfl rfl rfl ?_
    simp +contextual [leVs, leP, leE, leL, leC, Tell.rest, countsB, placeB]
    all_goals (repeat' (first | omega | (intro _) | apply And.intro | apply Iff.intro))
    all_goals (try simp_all)
  · simp [rMost] at hm
    refine FnOk.tree t57 (.f [] hb (.br 7 .nil (.a (.b 10 false) (.f [] hm (.f [] hp (.br 59 .nil .nil)))))) rfl rfl rfl rfl ?_
    simp +contextual [leVs, leP, leE, leL, leC, Tell.rest, countsB, placeB]
    all_goals (repeat' (first | omega | (intro _) | apply And.intro | apply Iff.intro))
    all_goals (try simp_all)
  · simp [rMost] at hm
    refine FnOk.tree t57 (.f [] hb (.br 7 .nil (.a (.b 10 false) (.f [] hm (.f [] hp .nil))))) rfl rfl rfl rfl ?_
    simp +contextual [leVs, leP, leE, leL, leC, Tell.rest, countsB, placeB]
    all_goals (repeat' (first | omega | (intro _) | apply And.intro | apply Iff.intro))
    all_goals (try simp_all)
  · simp [rMost] at hm
    refine FnOk.tree t57 (.f [] hb (.br 7 .nil (.a (.b 10 false) (.f [] hm (.f [] hp (.br 76 (.br 81 .nil .nil) .nil)))))) rfl rfl rfl rfl ?_
    simp +contextual [leVs, leP, leE, leL, leC, Tell.rest, countsB, placeB]
    all_goals (repeat' (first | omega | (intro _) | apply And.intro | apply Iff.intro))
    all_goals (try simp_all)
  · simp [rMost] at hm
    refine FnOk.tree t57 (.f [] hb (.br 7 .nil (.a (.b 10 false) (.f [] hm (.f [] hp (.br 76 (.br 81 .nil .nil) .nil)))))) rfl rfl rfl rfl ?_
    simp +contextual [leVs, leP, leE, leL, leC, Tell.rest, countsB, placeB]
    all_goals (repeat' (first | omega | (intro _) | apply And.intro | apply Iff.intro))
    all_goals (try simp_all)
  · simp [rMost] at hm
    refine FnOk.tree t57 (.f [] hb (.br 7 .nil (.a (.b 10 false) (.f [] hm (.f [] hp .nil))))) rfl rfl rfl rfl ?_
    simp +contextual [leVs, leP, leE, leL, leC, Tell.rest, countsB, placeB]
    all_goals (repeat' (first | omega | (intro _) | apply And.intro | apply Iff.intro))
    all_goals (try simp_all)
  · simp [rMost] at hm
    simp [Tell.only] at hS
    refine FnOk.tree t57 (.f [] hb (.br 7 .nil (.a (.b 10 false) (.f [] hm (.br 48 .nil .nil))))) rfl rfl rfl rfl ?_
    simp +contextual [leVs, leP, leE, leL, leC, Tell.rest, countsB, placeB]
    all_goals (repeat' (first | omega | (intro _) | apply And.intro | apply Iff.intro))
    all_goals (try simp_all)
  · simp [rMost] at hm
    simp [Tell.only] at hS
    refine FnOk.tree t57 (.f [] hb (.br 7 .nil (.a (.b 10 false) (.f [] hm (.f [] hob .nil))))) rfl rfl rfl rfl ?_
    simp +contextual [leVs, leP, leE, leL, leC, Tell.rest, countsB, placeB]
    all_goals (repeat' (first | omega | (intro _) | apply And.intro | apply Iff.intro))
    all_goals (try simp_all)
end Go.Proofs.Ytheaeddojcebjaa
