/-
  The program's buffers of cells: find, Get, Put, Right.
-/
import Derived.Test.YthddlkhfkncgpaaGreatT1
set_option maxRecDepth 100000
set_option maxHeartbeats 1000000
set_option linter.unusedVariables false
set_option linter.unusedSimpArgs false
namespace Go.Proofs.YthddlkhfkncgpaaGreat
open Go.RowKit

theorem mid_ok {lo hi : Nat} (h : (lo : Int) + hi ≤ 4000000000000) : (IntKind.u64.wrap ((lo : Int) + hi)).fdiv (2 ^ min (Int.toNat 1) IntKind.u64.bits) = (((lo + hi) / 2 : Nat) : Int) := by
  have : (2 : Int) ^ min (Int.toNat 1) IntKind.u64.bits = 2 := rfl
  rw [this, Int.fdiv_eq_ediv_of_nonneg _ (by decide), wu64]
  omega
theorem bsearch_ok {l : List Cel} (hl : l.length ≤ 1000000000) {t a : Int} : FnOk Tryz.prog 283 [vCl l, vK t a, vC (.fn 284 [])] [] (.tup [.c (.t (.int .i64 (findL l t a))), .c (.t (.bool (hitL l t a)))]) [] := by
  refine FnOk.start t283 rfl rfl rfl ?_
  refine Tri.seq (Tri.go [] rfl trivial ?_)
  refine Tri.seq (Tri.go [] rfl trivial ?_)
  refine Tri.seq (Tri.go [] rfl trivial ?_)
  refine Tri.mid (fun ρ hl => hl = [.box [.t (.int .i64 t), .t (.int .i64 a)]] ∧ keepE ρ [0, 2, 4, 8, 9] = some [(0, vCl l), (2, vC (.fn 284 [])), (4, vC (.ptr 0 0)), (8, vI .i64 l.length), (9, vI .i64 (findL l t a))]) ?_ ?_
  · refine Tri.block ?_
    refine Tri.lp (fun q ρ hl => ∃ lo hi f : Nat, q = hi - lo ∧ lo ≤ hi ∧ hi ≤ l.length ∧ hi - lo ≤ f ∧ bsF (belK l t a) f lo hi = findL l t a ∧ hl = [.box [.t (.int .i64 t), .t (.int .i64 a)]] ∧
      keepE ρ [0, 2, 4, 8, 9, 10] = some [(0, vCl l), (2, vC (.fn 284 [])), (4, vC (.ptr 0 0)), (8, vI .i64 l.length), (9, vI .i64 lo), (10, vI .i64 hi)]) l.length ⟨0, l.length, l.length, by omega, by omega, by omega, by omega, rfl, rfl, keep_of rfl rfl⟩ ?_
    rintro q ρ hl' ⟨lo, hi, f, rfl, h1, h2, h3, he, rfl, hkk⟩
    refine Tri.keep _ hkk ?_
    by_cases h : lo < hi
    · obtain ⟨f, rfl⟩ : ∃ g, f = g + 1 := ⟨f - 1, by omega⟩
      unfold bsF at he
      rw [if_pos h] at he
      have hm := mid_ok (lo := lo) (hi := hi) (by omega)
      have hml : (lo + hi) / 2 < l.length := by omega
      have hg := rwC_get hml
      have hb : belK l t a ((lo + hi) / 2) = lessK l[(lo + hi) / 2].1 l[(lo + hi) / 2].2.1 t a := by unfold belK; simp [List.getD_eq_getElem?_getD, hml]
      rw [hb] at he
      generalize l[(lo + hi) / 2] = c at *
      generalize hM : (lo + hi) / 2 = M at *
      have hless := find1_ok (c := c) (t := t) (a := a)
      have hlt := ordK_lt (t := c.1) (a := c.2.1) (u := t) (b := a)
      refine Tri.seq (Tri.go [.b 17 true] rfl ⟨decide_eq_true (by omega), trivial⟩ ?_)
      refine Tri.block (Tri.seq (Tri.go [] rfl ?_ ?_))
      · exact ⟨by omega, trivial, by omega, by rw [hm]; omega, trivial⟩
      rw [hm]
      cases hle : lessK c.1 c.2.1 t a with
      | true =>
        rw [hle] at he hlt
        simp only [if_true] at he
        refine Tri.seq (Tri.tree (.a (.at [.int .i64 c.1, .int .i64 c.2.1, .int .u16 c.2.2]) (.a (.call [] [] (vI .i64 (ordK c.1 c.2.1 t a)) []) .nil)) rfl ?_)
        refine ⟨⟨by omega, rfl, hg⟩, by simp, trivial, hless, ?_⟩
        exact Tri.go [.b 31 true] rfl ⟨hlt, by omega, trivial⟩ ⟨hi - (M + 1), by omega, M + 1, hi, f, rfl, by omega, by omega, by omega, he, rfl, keep_of rfl (by simp)⟩
      | false =>
        rw [hle] at he hlt
        simp only [Bool.false_eq_true, if_false] at he
        refine Tri.seq (Tri.tree (.a (.at [.int .i64 c.1, .int .i64 c.2.1, .int .u16 c.2.2]) (.a (.call [] [] (vI .i64 (ordK c.1 c.2.1 t a)) []) .nil)) rfl ?_)
        refine ⟨⟨by omega, rfl, hg⟩, by simp, trivial, hless, ?_⟩
        exact Tri.go [.b 31 false] rfl ⟨hlt, trivial⟩ ⟨M - lo, by omega, lo, M, f, rfl, by omega, by omega, by omega, he, rfl, keep_of rfl (by simp)⟩
    · have : lo = hi := by omega
      subst this
      have he' : bsF (belK l t a) f lo lo = lo := by cases f <;> simp [bsF]
      rw [he'] at he
      exact Tri.seq (Tri.tree (.a (.b 17 false) .nil) rfl ⟨decide_eq_false (by omega), rfl, keep_of rfl (by simp [he])⟩)
  rintro ρ hl' ⟨rfl, hkk⟩
  refine Tri.keep _ hkk ?_
  have hfl := findL_le l t a
  unfold hitL
  generalize findL l t a = i at *
  by_cases h : i < l.length
  · have hg := rwC_get h
    rw [List.getElem?_eq_getElem h]
    generalize l[i] = c at *
    have hless := find1_ok (c := c) (t := t) (a := a)
    have heq := ordK_eq (t := c.1) (a := c.2.1) (u := t) (b := a)
    refine Tri.treeR (.a (.b 39 true) (.a (.at [.int .i64 c.1, .int .i64 c.2.1, .int .u16 c.2.2]) (.a (.call [] [] (vI .i64 (ordK c.1 c.2.1 t a)) []) .nil))) rfl ?_
    simp [leP, leE, leEs, leC]
    refine ⟨by omega, ⟨by omega, hg⟩, hless, ?_⟩
    have : (ordK c.1 c.2.1 t a = 0) ↔ (c.1 = t ∧ c.2.1 = a) := by
      have := heq
      by_cases h0 : ordK c.1 c.2.1 t a = 0
      · simpa [h0] using this
      · simpa [h0] using this
    exact this
  · rw [List.getElem?_eq_none (by omega)]
    refine Tri.treeR (.a (.b 39 false) .nil) rfl ?_
    simp [leP, leE, leEs, leC]
    omega
theorem bfind_ok {l : List Cel} (hl : l.length ≤ 1000000000) {t a : Int} : FnOk Tryz.prog 262 [vCl l, vK t a] [] (.tup [.c (.t (.int .i64 (findL l t a))), .c (.t (.bool (hitL l t a)))]) [] := by
  have hf := bsearch_ok hl (t := t) (a := a)
  have hfl := findL_le l t a
  have hh : hitL l t a = match l[findL l t a]? with | some c => c.1 == t && c.2.1 == a | none => false := rfl
  generalize hitL l t a = b at *
  generalize findL l t a = i at *
  by_cases h : i < l.length
  · have hg := rwC_get h
    rw [List.getElem?_eq_getElem h] at hh
    generalize l[i] = c at *
    simp only at hh
    subst hh
    refine FnOk.tree t262 (.a (.call [] [] (.tup [.c (.t (.int .i64 i)), .c (.t (.bool (c.1 == t && c.2.1 == a)))]) []) (.a (.b 19 true) (.a (.at [.int .i64 c.1, .int .i64 c.2.1, .int .u16 c.2.2]) .nil))) rfl rfl rfl rfl ?_
    simp [leVs, leP, leE, leL, leEs, leC]
    exact ⟨hf, h, hg⟩
  · rw [List.getElem?_eq_none (by omega)] at hh
    simp only at hh
    subst hh
    refine FnOk.tree t262 (.a (.call [] [] (.tup [.c (.t (.int .i64 i)), .c (.t (.bool false))]) []) (.a (.b 19 false) .nil)) rfl rfl rfl rfl ?_
    simp [leVs, leP, leE, leL, leEs, leC]
    exact ⟨hf, by omega⟩
theorem bget_ok {l : List Cel} (hl : l.length ≤ 1000000000) {t a : Int} : FnOk Tryz.prog 226 [vCl l, vK t a] [] (.tup [.c (.t (.int .u16 (getL l t a).1)), .c (.t (.bool (getL l t a).2))]) [] := by
  have hf := bfind_ok (l := l) hl (t := t) (a := a)
  unfold getL
  unfold hitL at *
  generalize findL l t a = i at *
  by_cases h : i < l.length
  · have hg := rwC_get h
    rw [List.getElem?_eq_getElem h] at *
    generalize l[i] = c at *
    simp only at *
    cases hb : (c.1 == t && c.2.1 == a) with
    | true =>
      rw [hb] at hf
      refine FnOk.tree t226 (.f [] hf (.a (.b 15 false) (.a (.at [.int .i64 c.1, .int .i64 c.2.1, .int .u16 c.2.2]) .nil))) rfl rfl rfl rfl ?_
      simp [leVs, leP, leE, leL, leEs, leC]
      exact ⟨h, hg⟩
    | false =>
      rw [hb] at hf
      exact FnOk.tree t226 (.f [] hf (.a (.b 15 true) .nil)) rfl rfl rfl rfl (by simp [leVs, leP, leE, leL, leEs, leC])
  · rw [List.getElem?_eq_none (by omega)] at *
    exact FnOk.tree t226 (.f [] hf (.a (.b 15 true) .nil)) rfl rfl rfl rfl (by simp [leVs, leP, leE, leL, leEs, leC])
end Go.Proofs.YthddlkhfkncgpaaGreat
