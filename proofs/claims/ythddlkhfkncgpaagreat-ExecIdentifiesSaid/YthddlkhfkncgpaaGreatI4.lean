/-
  Who the device is, by the document: Answer.
-/
import Derived.Test.YthddlkhfkncgpaaGreatI1
set_option maxRecDepth 100000
set_option maxHeartbeats 1000000
set_option linter.unusedVariables false
set_option linter.unusedSimpArgs false
namespace Go.Proofs.YthddlkhfkncgpaaGreat
open Go.RowKit

def lvR (lv : Int) (o : Obj) : Int := if 127 < o.1 then 131 else if 2 < o.1 ∧ lv < 130 then 130 else lv
def levelR (lv : Int) (l : List Obj) : Int := l.foldl lvR lv
theorem levelR_131 : ∀ l, levelR 131 l = 131
  | [] => rfl
  | o :: l => by
    have : lvR 131 o = 131 := by unfold lvR; split <;> simp
    rw [levelR, List.foldl_cons, this]
    exact levelR_131 l
theorem levelR_eq : ∀ (l : List Obj) (lv : Int), lv ≤ 130 → levelR lv l = levelL lv l
  | [], lv, _ => rfl
  | o :: l, lv, h => by
    rw [levelR, List.foldl_cons, levelL_cons]
    unfold lvR
    by_cases c1 : 127 < o.1
    · rw [if_pos c1, if_pos c1]
      exact levelR_131 l
    · rw [if_neg c1, if_neg c1]
      by_cases c2 : 2 < o.1
      · rw [if_pos c2]
        by_cases c3 : lv < 130
        · rw [if_pos ⟨c2, c3⟩]
          exact levelR_eq l 130 (by omega)
        · rw [if_neg (fun h => c3 h.2)]
          have : lv = 130 := by omega
          subst this
          exact levelR_eq l 130 (by omega)
      · rw [if_neg (fun h => c2 h.1), if_neg c2]
        exact levelR_eq l lv h
theorem levelR_succ {l : List Obj} {lv : Int} {i : Nat} (h : i < l.length) : levelR lv (l.take (i + 1)) = lvR (levelR lv (l.take i)) l[i] := by
  unfold levelR
  rw [← List.take_append_getElem h, List.foldl_append]
  rfl
theorem rLevel_ok {l : List Obj} (hl : l.length ≤ 1000000000) : FnOk Tryz.prog 84 [vD (lO l)] [] (vI .i64 (levelL 129 l)) [] := by
  rw [← levelR_eq l 129 (by omega)]
  refine FnOk.start t84 rfl rfl rfl ?_
  refine Tri.seq (Tri.go [] rfl trivial ?_)
  refine Tri.seq (Tri.go [] rfl trivial ?_)
  refine Tri.mid (fun ρ hl => hl = [] ∧ keepE ρ [3] = some [(3, vI .i64 (levelR 129 l))]) ?_ ?_
  · refine Tri.seq (Tri.go [] rfl trivial ?_)
    refine Tri.block ?_
    refine Tri.lp (fun q ρ hl => ∃ i, q = l.length - i ∧ i ≤ l.length ∧ hl = [] ∧ keepE ρ [0, 3, 4] = some [(0, vD (lO l)), (3, vI .i64 (levelR 129 (l.take i))), (4, vI .i64 i)]) l.length ⟨0, by omega, by omega, rfl, keep_of rfl rfl⟩ ?_
    rintro q ρ hl' ⟨i, rfl, hi, rfl, hkk⟩
    refine Tri.keep _ hkk ?_
    by_cases h : i < l.length
    · have hg := oRows_get h
      have hs := levelR_succ (lv := 129) h
      generalize l[i] = o at *
      generalize levelR 129 (l.take i) = lv at *
      refine Tri.seq (Tri.go [.b 8 true] rfl ⟨decide_eq_true (by omega), trivial⟩ ?_)
      unfold lvR at hs
      by_cases c1 : 127 < o.1
      · rw [if_pos c1] at hs
        refine Tri.seq (Tri.block (Tri.tree (.a (.at [.int .i64 o.1, .str o.2]) (.a (.b 11 true) .nil)) rfl ⟨⟨by omega, rfl, hg⟩, decide_eq_true (by omega), ?_⟩))
        exact Tri.go [] rfl ⟨by omega, trivial⟩ (again (l.length - (i + 1)) (by omega) ⟨i + 1, rfl, by omega, rfl, keep_of rfl (by simp [hs])⟩)
      rw [if_neg c1] at hs
      by_cases c2 : 2 < o.1
      · by_cases c3 : lv < 130
        · rw [if_pos ⟨c2, c3⟩] at hs
          refine Tri.seq (Tri.block (Tri.tree (.a (.at [.int .i64 o.1, .str o.2]) (.a (.b 11 false) (.a (.at [.int .i64 o.1, .str o.2]) (.a (.b 25 true) (.a (.b 18 true) .nil))))) rfl ⟨⟨by omega, rfl, hg⟩, decide_eq_false (by omega), ⟨by omega, rfl, hg⟩, decide_eq_true (by omega), decide_eq_true (by omega), ?_⟩))
          exact Tri.go [] rfl ⟨by omega, trivial⟩ (again (l.length - (i + 1)) (by omega) ⟨i + 1, rfl, by omega, rfl, keep_of rfl (by simp [hs])⟩)
        · rw [if_neg (fun h => c3 h.2)] at hs
          refine Tri.seq (Tri.block (Tri.tree (.a (.at [.int .i64 o.1, .str o.2]) (.a (.b 11 false) (.a (.at [.int .i64 o.1, .str o.2]) (.a (.b 25 true) (.a (.b 18 false) .nil))))) rfl ⟨⟨by omega, rfl, hg⟩, decide_eq_false (by omega), ⟨by omega, rfl, hg⟩, decide_eq_true (by omega), decide_eq_false (by omega), ?_⟩))
          exact Tri.go [] rfl ⟨by omega, trivial⟩ (again (l.length - (i + 1)) (by omega) ⟨i + 1, rfl, by omega, rfl, keep_of rfl (by simp [hs])⟩)
      · rw [if_neg (fun h => c2 h.1)] at hs
        refine Tri.seq (Tri.block (Tri.tree (.a (.at [.int .i64 o.1, .str o.2]) (.a (.b 11 false) (.a (.at [.int .i64 o.1, .str o.2]) (.a (.b 25 false) (.a (.b 18 false) .nil))))) rfl ⟨⟨by omega, rfl, hg⟩, decide_eq_false (by omega), ⟨by omega, rfl, hg⟩, decide_eq_false (by omega), rfl, ?_⟩))
        exact Tri.go [] rfl ⟨by omega, trivial⟩ (again (l.length - (i + 1)) (by omega) ⟨i + 1, rfl, by omega, rfl, keep_of rfl (by simp [hs])⟩)
    · have : i = l.length := by omega
      subst this
      rw [List.take_length] at hkk ⊢
      exact Tri.go [.b 8 false] rfl ⟨decide_eq_false (by omega), trivial⟩ (And.intro rfl (keep_of rfl rfl))
  rintro ρ hl' ⟨rfl, hkk⟩
  refine Tri.keep _ hkk ?_
  exact Tri.treeR .nil rfl ⟨trivial, rfl, leP_refl _⟩

def fromF (x last : Int) (l : List Obj) : Nat → Nat
  | 0 => 0
  | i + 1 => if (l.getD i default).1 = x ∧ x ≤ last then i else fromF x last l i
theorem fromF_le (x last : Int) (l : List Obj) : ∀ n, fromF x last l n ≤ n
  | 0 => Nat.le_refl _
  | n + 1 => by
    unfold fromF
    split
    · omega
    · have := fromF_le x last l n
      omega
def moreT (c lv nx : Int) (os : List Obj) : Tell := { tO c lv os with more := true, next := nx }
def goR (c lv last : Int) : Int → List Obj → List Obj → Tell
  | n, os, [] => tO c lv os
  | n, os, o :: r => if o.1 ≤ last then (if 253 < n + 2 + o.2.size then moreT c lv o.1 os else goR c lv last (n + 2 + o.2.size) (os ++ [o]) r) else tO c lv os
theorem goR_cons (c lv last n : Int) (os : List Obj) (o : Obj) (r : List Obj) : goR c lv last n os (o :: r) = if o.1 ≤ last then (if 253 < n + 2 + o.2.size then moreT c lv o.1 os else goR c lv last (n + 2 + o.2.size) (os ++ [o]) r) else tO c lv os := rfl
def answerR (l : List Obj) (c x : Int) : Tell × Int :=
  if 1 ≤ c ∧ c ≤ 4 ∧ 0 ≤ x ∧ x ≤ 255 then
    if c = 4 then
      if idxF (fun o => o.1 == x) 0 l = -1 then ({}, 2) else (tO 4 (levelL 129 l) [l.getD (idxF (fun o => o.1 == x) 0 l).toNat default], 0)
    else (goR c (levelL 129 l) (lastN c) 7 [] (l.drop (fromF x (lastN c) l l.length)), 0)
  else ({}, 3)
theorem rAnswerNo_ok {l : List Obj} {c x : Int} (h : ¬ (1 ≤ c ∧ c ≤ 4 ∧ 0 ≤ x ∧ x ≤ 255)) : FnOk Tryz.prog 35 [vD (lO l), vI .i64 c, vI .i64 x] [] (tellE (answerR l c x)) [] := by
  rw [show answerR l c x = ({}, 3) from if_neg h]
  have hb := byteful_ok x
  by_cases c1 : c < 1
  · exact FnOk.tree t35 (.a (.b 17 true) (.a (.b 21 true) (.a (.b 25 true) .nil))) rfl rfl rfl rfl (by simp [leP, leE, leEs, leL, leC, c1])
  by_cases c2 : 4 < c
  · exact FnOk.tree t35 (.a (.b 17 false) (.a (.b 21 true) (.a (.b 25 true) .nil))) rfl rfl rfl rfl (by simp [leP, leE, leEs, leL, leC, c1, c2])
  · rw [show bytefulB x = false from decide_eq_false (by omega)] at hb
    exact FnOk.tree t35 (.a (.b 17 false) (.a (.b 21 false) (.f [] hb (.a (.b 25 true) .nil)))) rfl rfl rfl rfl (by simp [leVs, leP, leE, leEs, leL, leC, c1, c2])
theorem rAnswer4_ok {l : List Obj} (hl : l.length ≤ 1000000000) {x : Int} (h : 0 ≤ x ∧ x ≤ 255) : FnOk Tryz.prog 35 [vD (lO l), vI .i64 4, vI .i64 x] [] (tellE (answerR l 4 x)) [] := by
  have hlv := rLevel_ok hl
  have hb := byteful_ok x
  rw [show bytefulB x = true from decide_eq_true (by omega)] at hb
  rw [show answerR l 4 x = if idxF (fun o => o.1 == x) 0 l = -1 then ({}, 2) else (tO 4 (levelL 129 l) [l.getD (idxF (fun o => o.1 == x) 0 l).toNat default], 0) by
    unfold answerR; rw [if_pos (by omega), if_pos rfl]]
  generalize levelL 129 l = lv at *
  refine FnOk.start t35 rfl rfl rfl ?_
  refine Tri.seq (Tri.go [] rfl trivial ?_)
  refine Tri.seq (Tri.tree (.a (.b 17 false) (.a (.b 21 false) (.f [] hb (.a (.b 25 false) .nil)))) rfl ⟨by simp, by simp, trivial, by simp [leVs, leP, leE, leC], rfl, ?_⟩)
  refine Tri.seq (Tri.tree (.f [] hlv .nil) rfl ⟨trivial, by simp [leVs, leP, leE, leC], ?_⟩)
  refine Tri.seq (Tri.seq (Tri.go [] rfl trivial ?_))
  refine Tri.cond rfl (fun _ => ?_) (fun h => by simp at h)
  refine Tri.mid (fun ρ hl => hl = [.box tzC, .box (tOn 4 lv (.t .nil))] ∧ idxF (fun o => o.1 == x) 0 l = -1 ∧ keepE ρ [6] = some [(6, vC (.ptr 0 0))]) ?_ ?_
  · refine Tri.seq (Tri.go [] rfl trivial ?_)
    refine Tri.block ?_
    refine Tri.lp (fun q ρ hl => ∃ i, q = l.length - i ∧ i ≤ l.length ∧ idxF (fun o => o.1 == x) 0 l = idxF (fun o => o.1 == x) i (l.drop i) ∧ hl = [.box tzC, .box (tOn 4 lv (.t .nil))] ∧ keepE ρ [0, 2, 6, 8, 9] = some [(0, vD (lO l)), (2, vI .i64 x), (6, vC (.ptr 0 0)), (8, vC (.ptr 1 0)), (9, vI .i64 i)]) l.length ⟨0, by omega, by omega, rfl, rfl, keep_of rfl rfl⟩ ?_
    rintro q ρ hl' ⟨i, rfl, hi, he, rfl, hkk⟩
    refine Tri.keep _ hkk ?_
    by_cases h2 : i < l.length
    · have hg := oRows_get h2
      have hgd : l.getD i default = l[i] := by simp [List.getD_eq_getElem?_getD, h2]
      rw [List.drop_eq_getElem_cons h2, idxF_cons] at he
      generalize l[i] = o at *
      refine Tri.seq (Tri.go [.b 36 true] rfl ⟨decide_eq_true (by omega), trivial⟩ ?_)
      by_cases hx : o.1 = x
      · rw [if_pos (by simpa using hx)] at he
        refine Tri.tree (.a (.at [.int .i64 o.1, .str o.2]) (.a (.b 45 true) (.a (.at [.int .i64 o.1, .str o.2]) .nil))) rfl ⟨⟨by omega, rfl, hg⟩, by simpa using hx, ⟨by omega, rfl, hg⟩, by simp, ⟨⟨rfl, by simp⟩, trivial⟩, ?_⟩
        rw [he, if_neg (by omega), Int.toNat_natCast, hgd]
        exact RetQ.le [] [] rfl ⟨trivial, trivial⟩ (leP_ok (by simp [leP, leE, leEs, leL, leC, tO, oRows])) .nil
      · rw [if_neg (by simpa using hx)] at he
        refine Tri.seq (Tri.block (Tri.tree (.a (.at [.int .i64 o.1, .str o.2]) (.a (.b 45 false) .nil)) rfl ⟨⟨by omega, rfl, hg⟩, by simpa using hx, ?_⟩))
        exact Tri.go [] rfl ⟨by omega, trivial⟩ (again (l.length - (i + 1)) (by omega) ⟨i + 1, rfl, by omega, he, rfl, keep_of rfl (by simp)⟩)
    · have : i = l.length := by omega
      subst this
      rw [List.drop_length] at he
      exact Tri.go [.b 36 false] rfl ⟨decide_eq_false (by omega), trivial⟩ (And.intro rfl (And.intro he (keep_of rfl rfl)))
  rintro ρ hl' ⟨rfl, he, hkk⟩
  refine Tri.keep _ hkk ?_
  rw [he, if_pos rfl]
  refine Tri.seq (Tri.go [] rfl trivial ?_)
  exact Tri.ret (RetQ.le [] [] rfl ⟨trivial, trivial⟩ (leP_ok (by simp [leP, leE, leEs, leL, leC])) .nil)
theorem rAnswerA_ok {l : List Obj} (hl : l.length ≤ 1000000) {c x : Int} (hc : c = 1 ∨ c = 2 ∨ c = 3) (h : 0 ≤ x ∧ x ≤ 255) (ho : ∀ o ∈ l, b64 o.1 ∧ o.2.size ≤ 1000000) : FnOk Tryz.prog 35 [vD (lO l), vI .i64 c, vI .i64 x] [] (tellE (answerR l c x)) [] := by
  have hlv := rLevel_ok (l := l) (by omega)
  have hb := byteful_ok x
  rw [show bytefulB x = true from decide_eq_true (by omega)] at hb
  rw [show answerR l c x = (goR c (levelL 129 l) (lastN c) 7 [] (l.drop (fromF x (lastN c) l l.length)), 0) by
    unfold answerR; rw [if_pos (by omega), if_neg (by omega)]]
  generalize levelL 129 l = lv at *
  refine FnOk.start t35 rfl rfl rfl ?_
  refine Tri.seq (Tri.go [] rfl trivial ?_)
  refine Tri.seq (Tri.tree (.a (.b 17 false) (.a (.b 21 false) (.f [] hb (.a (.b 25 false) .nil)))) rfl ⟨by simp; omega, by simp; omega, trivial, by simp [leVs, leP, leE, leC], rfl, ?_⟩)
  refine Tri.seq (Tri.tree (.f [] hlv .nil) rfl ⟨trivial, by simp [leVs, leP, leE, leC], ?_⟩)
  refine Tri.seq (Tri.tree (.a (.b 32 false) .nil) rfl ⟨by simp; omega, ?_⟩)
  refine Tri.mid (fun ρ hl => hl = [.box tzC, .box (tOn c lv (.t .nil))] ∧ keepE ρ [0, 2, 6, 8, 10] = some [(0, vD (lO l)), (2, vI .i64 x), (6, vC (.ptr 0 0)), (8, vC (.ptr 1 0)), (10, vI .i64 (lastN c))]) ?_ ?_
  · rcases hc with rfl | rfl | rfl
    all_goals
      exact Tri.tree .nil rfl ⟨⟨trivial, by omega, by omega⟩, rfl, keep_of rfl (by simp [lastN])⟩
  rintro ρ hl' ⟨rfl, hkk⟩
  refine Tri.keep _ hkk ?_
  generalize lastN c = last at *
  refine Tri.seq (Tri.go [] rfl trivial ?_)
  refine Tri.mid (fun ρ hl => hl = [.box tzC, .box (tOn c lv (.t .nil))] ∧ keepE ρ [0, 6, 8, 10, 11] = some [(0, vD (lO l)), (6, vC (.ptr 0 0)), (8, vC (.ptr 1 0)), (10, vI .i64 last), (11, vI .i64 (fromF x last l l.length))]) ?_ ?_
  · refine Tri.seq (Tri.go [] rfl trivial ?_)
    refine Tri.block ?_
    refine Tri.lp (fun q ρ hl => ∃ i, q = l.length - i ∧ i ≤ l.length ∧ hl = [.box tzC, .box (tOn c lv (.t .nil))] ∧ keepE ρ [0, 2, 6, 8, 10, 11, 12] = some [(0, vD (lO l)), (2, vI .i64 x), (6, vC (.ptr 0 0)), (8, vC (.ptr 1 0)), (10, vI .i64 last), (11, vI .i64 (fromF x last l i)), (12, vI .i64 i)]) l.length ⟨0, by omega, by omega, rfl, keep_of rfl rfl⟩ ?_
    rintro q ρ hl' ⟨i, rfl, hi, rfl, hkk⟩
    refine Tri.keep _ hkk ?_
    by_cases h2 : i < l.length
    · have hg := oRows_get h2
      have hs : fromF x last l (i + 1) = if l[i].1 = x ∧ x ≤ last then i else fromF x last l i := by
        rw [fromF]; simp [List.getD_eq_getElem?_getD, h2]
      generalize l[i] = o at *
      generalize fromF x last l i = fr at *
      refine Tri.seq (Tri.go [.b 60 true] rfl ⟨decide_eq_true (by omega), trivial⟩ ?_)
      by_cases hx : o.1 = x
      · by_cases hxl : x ≤ last
        · rw [if_pos ⟨hx, hxl⟩] at hs
          refine Tri.seq (Tri.block (Tri.tree (.a (.at [.int .i64 o.1, .str o.2]) (.a (.b 70 true) (.a (.b 74 true) .nil))) rfl ⟨⟨by omega, rfl, hg⟩, by simpa using hx, decide_eq_true hxl, ?_⟩))
          exact Tri.go [] rfl ⟨by omega, trivial⟩ (again (l.length - (i + 1)) (by omega) ⟨i + 1, rfl, by omega, rfl, keep_of rfl (by simp [hs])⟩)
        · rw [if_neg (fun h => hxl h.2)] at hs
          refine Tri.seq (Tri.block (Tri.tree (.a (.at [.int .i64 o.1, .str o.2]) (.a (.b 70 true) (.a (.b 74 false) .nil))) rfl ⟨⟨by omega, rfl, hg⟩, by simpa using hx, decide_eq_false hxl, ?_⟩))
          exact Tri.go [] rfl ⟨by omega, trivial⟩ (again (l.length - (i + 1)) (by omega) ⟨i + 1, rfl, by omega, rfl, keep_of rfl (by simp [hs])⟩)
      · rw [if_neg (fun h => hx h.1)] at hs
        refine Tri.seq (Tri.block (Tri.tree (.a (.at [.int .i64 o.1, .str o.2]) (.a (.b 70 false) (.a (.b 74 false) .nil))) rfl ⟨⟨by omega, rfl, hg⟩, by simpa using hx, rfl, ?_⟩))
        exact Tri.go [] rfl ⟨by omega, trivial⟩ (again (l.length - (i + 1)) (by omega) ⟨i + 1, rfl, by omega, rfl, keep_of rfl (by simp [hs])⟩)
    · have : i = l.length := by omega
      subst this
      exact Tri.go [.b 60 false] rfl ⟨decide_eq_false (by omega), trivial⟩ (And.intro rfl (keep_of rfl rfl))
  rintro ρ hl' ⟨rfl, hkk⟩
  refine Tri.keep _ hkk ?_
  have hfr := fromF_le x last l l.length
  generalize fromF x last l l.length = fr at *
  refine Tri.seq (Tri.go [] rfl trivial ?_)
  refine Tri.mid (fun ρ hl => ∃ os : List Obj, goR c lv last 7 [] (l.drop fr) = tO c lv os ∧ ((os = [] ∧ hl = [.box tzC, .box (tOn c lv (.t .nil))]) ∨ (0 < os.length ∧ hl = [.box tzC, .box (tOn c lv (.sl 2 0 os.length)), .arr 2 (oRows os)])) ∧ keepE ρ [6, 8] = some [(6, vC (.ptr 0 0)), (8, vC (.ptr 1 0))]) ?_ ?_
  · refine Tri.seq (Tri.go [] rfl trivial ?_)
    refine Tri.block ?_
    refine Tri.lp (fun q ρ hl => ∃ i n os, q = l.length - i ∧ i ≤ l.length ∧ os.length ≤ i ∧ 0 ≤ n ∧ n ≤ 253 ∧ goR c lv last 7 [] (l.drop fr) = goR c lv last n os (l.drop i) ∧ ((os = [] ∧ hl = [.box tzC, .box (tOn c lv (.t .nil))]) ∨ (0 < os.length ∧ hl = [.box tzC, .box (tOn c lv (.sl 2 0 os.length)), .arr 2 (oRows os)])) ∧
      keepE ρ [0, 6, 8, 10, 13, 14] = some [(0, vD (lO l)), (6, vC (.ptr 0 0)), (8, vC (.ptr 1 0)), (10, vI .i64 last), (13, vI .i64 n), (14, vI .i64 i)]) (l.length - fr) ⟨fr, 7, [], rfl, by omega, by simp, by omega, by omega, rfl, .inl ⟨rfl, rfl⟩, keep_of rfl rfl⟩ ?_
    rintro q ρ hl' ⟨i, n, os, rfl, hi, hos, hn0, hn1, he, hh, hkk⟩
    refine Tri.keep _ hkk ?_
    by_cases h2 : i < l.length
    · have hg := oRows_get h2
      have hoo := ho _ (List.getElem_mem h2)
      rw [List.drop_eq_getElem_cons h2, goR_cons] at he
      generalize l[i] = o at *
      by_cases hol : o.1 ≤ last
      · rw [if_pos hol] at he
        by_cases hsz : 253 < n + 2 + o.2.size
        · rw [if_pos hsz] at he
          rcases hh with ⟨rfl, rfl⟩ | ⟨hp, rfl⟩
          · refine Tri.seq (Tri.tree (.a (.b 81 true) (.a (.at [.int .i64 o.1, .str o.2]) (.a (.b 89 true) .nil))) rfl ⟨decide_eq_true (by omega), ⟨by omega, rfl, hg⟩, decide_eq_true hol, ?_⟩)
            refine Tri.tree (.a (.at [.int .i64 o.1, .str o.2]) (.a (.b 102 true) (.a (.at [.int .i64 o.1, .str o.2]) .nil))) rfl ⟨by omega, ⟨by omega, rfl, hg⟩, by omega, decide_eq_true hsz, ⟨by omega, rfl, hg⟩, ?_⟩
            rw [he]
            exact RetQ.le [] [] rfl ⟨trivial, trivial⟩ (leP_ok (by simp [leP, leE, leEs, leL, leC, moreT, tO])) .nil
          · refine Tri.seq (Tri.tree (.a (.b 81 true) (.a (.at [.int .i64 o.1, .str o.2]) (.a (.b 89 true) .nil))) rfl ⟨decide_eq_true (by omega), ⟨by omega, rfl, hg⟩, decide_eq_true hol, ?_⟩)
            refine Tri.tree (.a (.at [.int .i64 o.1, .str o.2]) (.a (.b 102 true) (.a (.at [.int .i64 o.1, .str o.2]) .nil))) rfl ⟨by omega, ⟨by omega, rfl, hg⟩, by omega, decide_eq_true hsz, ⟨by omega, rfl, hg⟩, ?_⟩
            rw [he]
            exact RetQ.le [] [2] rfl ⟨by simp, trivial, trivial⟩ (leP_ok (by simp [leP, leE, leEs, leL, leC, moreT, tO])) .nil
        · rw [if_neg hsz] at he
          rcases hh with ⟨rfl, rfl⟩ | ⟨hp, rfl⟩
          · refine Tri.seq (Tri.tree (.a (.b 81 true) (.a (.at [.int .i64 o.1, .str o.2]) (.a (.b 89 true) .nil))) rfl ⟨decide_eq_true (by omega), ⟨by omega, rfl, hg⟩, decide_eq_true hol, ?_⟩)
            refine Tri.seq (Tri.block (Tri.tree (.a (.at [.int .i64 o.1, .str o.2]) (.a (.b 102 false) (.a (.at [.int .i64 o.1, .str o.2]) .nil))) rfl ⟨by omega, ⟨by omega, rfl, hg⟩, by omega, decide_eq_false hsz, ⟨by omega, rfl, hg⟩, by simp, ⟨⟨rfl, by simp⟩, trivial⟩, ⟨.inr rfl, by simp, by simp, by simp⟩, ?_⟩))
            refine Tri.go [] rfl ⟨by omega, trivial⟩ (again (l.length - (i + 1)) (by omega) ⟨i + 1, n + 2 + o.2.size, [o], rfl, by omega, by simp, by omega, by omega, he, .inr ⟨by simp, ?_⟩, keep_of rfl (by simp)⟩)
            simp [oRows]
          · refine Tri.seq (Tri.tree (.a (.b 81 true) (.a (.at [.int .i64 o.1, .str o.2]) (.a (.b 89 true) .nil))) rfl ⟨decide_eq_true (by omega), ⟨by omega, rfl, hg⟩, decide_eq_true hol, ?_⟩)
            refine Tri.seq (Tri.block (Tri.tree (.a (.at [.int .i64 o.1, .str o.2]) (.a (.b 102 false) (.a (.at [.int .i64 o.1, .str o.2]) .nil))) rfl ⟨by omega, ⟨by omega, rfl, hg⟩, by omega, decide_eq_false hsz, ⟨by omega, rfl, hg⟩, by simp, ⟨⟨rfl, by simp⟩, trivial⟩, ⟨.inr rfl, rfl, by simp, by simp, by omega, by omega⟩, ?_⟩))
            refine Tri.let [0, 1, 3] [] [0, 6, 8, 10, 13, 14] rfl trivial ?_
            refine Tri.go [] rfl ⟨by omega, trivial⟩ (again (l.length - (i + 1)) (by omega) ⟨i + 1, n + 2 + o.2.size, os ++ [o], rfl, by omega, by simp; omega, by omega, by omega, he, .inr ⟨by simp, ?_⟩, keep_of rfl (by simp)⟩)
            simp [oRows]
      · rw [if_neg hol] at he
        rcases hh with ⟨rfl, rfl⟩ | ⟨hp, rfl⟩
        · exact Tri.seq (Tri.tree (.a (.b 81 true) (.a (.at [.int .i64 o.1, .str o.2]) (.a (.b 89 false) .nil))) rfl ⟨decide_eq_true (by omega), ⟨by omega, rfl, hg⟩, decide_eq_false hol, [], he, .inl ⟨rfl, rfl⟩, keep_of rfl rfl⟩)
        · exact Tri.seq (Tri.tree (.a (.b 81 true) (.a (.at [.int .i64 o.1, .str o.2]) (.a (.b 89 false) .nil))) rfl ⟨decide_eq_true (by omega), ⟨by omega, rfl, hg⟩, decide_eq_false hol, os, he, .inr ⟨hp, rfl⟩, keep_of rfl rfl⟩)
    · rw [show l.drop i = [] from List.drop_eq_nil_of_le (by omega)] at he
      have he : goR c lv last 7 [] (l.drop fr) = tO c lv os := he
      rcases hh with ⟨rfl, rfl⟩ | ⟨hp, rfl⟩
      · exact Tri.seq (Tri.tree (.a (.b 81 false) (.a (.b 89 false) .nil)) rfl ⟨decide_eq_false (by omega), rfl, [], he, .inl ⟨rfl, rfl⟩, keep_of rfl rfl⟩)
      · exact Tri.seq (Tri.tree (.a (.b 81 false) (.a (.b 89 false) .nil)) rfl ⟨decide_eq_false (by omega), rfl, os, he, .inr ⟨hp, rfl⟩, keep_of rfl rfl⟩)
  rintro ρ hl' ⟨os, he, hh, hkk⟩
  rw [he]
  refine Tri.keep _ hkk ?_
  rcases hh with ⟨rfl, rfl⟩ | ⟨hp, rfl⟩
  · exact Tri.treeR .nil rfl ⟨⟨trivial, trivial⟩, rfl, by simp [leP, leE, leEs, leL, leC, tO]⟩
  · exact Tri.treeR (.a (.call [] [2] .u []) .nil) rfl ⟨⟨by simp, trivial, trivial⟩, .nil, by simp [leP, leE, leEs, leL, leC, tO]⟩
theorem rAnswer_ok {l : List Obj} (hl : l.length ≤ 1000000) {c x : Int} (ho : ∀ o ∈ l, b64 o.1 ∧ o.2.size ≤ 1000000) : FnOk Tryz.prog 35 [vD (lO l), vI .i64 c, vI .i64 x] [] (tellE (answerR l c x)) [] := by
  by_cases h : 1 ≤ c ∧ c ≤ 4 ∧ 0 ≤ x ∧ x ≤ 255
  · by_cases h4 : c = 4
    · subst h4
      exact rAnswer4_ok (by omega) (by omega)
    · exact rAnswerA_ok hl (by omega) (by omega) ho
  · exact rAnswerNo_ok h
/-- Objects that may be: rising, bytes, with few bytes of text. -/
structure ObjsOk (l : List Obj) : Prop where
  up : l.Pairwise fun a b => a.1 < b.1
  id : ∀ o ∈ l, 0 ≤ o.1 ∧ o.1 ≤ 255
  sz : ∀ o ∈ l, o.2.size ≤ 244
def sumO (l : List Obj) : Int := (l.map fun o => 2 + (o.2.size : Int)).sum
theorem objsOk_snoc : ∀ (l : List Obj) (n : Int) (o : Obj), objsOk n (l ++ [o]) = (objsOk n l && (bytefulB o.1 && decide (n + sumO l + 2 + o.2.size ≤ 253)))
  | [], n, o => by simp [objsOk, sumO]
  | p :: l, n, o => by
    have e : n + 2 + (p.2.size : Int) + sumO l = n + sumO (p :: l) := by simp [sumO]; omega
    rw [List.cons_append, objsOk, objsOk_snoc l, objsOk, e]
    simp [Bool.and_assoc]
theorem tO_right {c lv : Int} (hc : c = 1 ∨ c = 2 ∨ c = 3) (hl : lv = 129 ∨ lv = 130 ∨ lv = 131) (os : List Obj) : (tO c lv os).right = objsOk 7 os := by
  simp [Tell.right, tO, known, tEq, Tell.only, placeB, Tell.rest, countsB, bytefulB]
  rcases hc with rfl | rfl | rfl <;> rcases hl with rfl | rfl | rfl <;> simp
theorem goA_goR {c lv last : Int} (hc : c = 1 ∨ c = 2 ∨ c = 3) (hl : lv = 129 ∨ lv = 130 ∨ lv = 131) : ∀ (r : List Obj) (os : List Obj), objsOk 7 os = true → (∀ o ∈ r, 0 ≤ o.1 ∧ o.1 ≤ 255) →
    goA (tO c lv os) (r.takeWhile fun o => decide (o.1 ≤ last)) = goR c lv last (7 + sumO os) os r
  | [], os, h, hi => rfl
  | o :: r, os, h, hi => by
    rw [List.takeWhile_cons, goR_cons]
    by_cases hol : o.1 ≤ last
    · rw [if_pos (decide_eq_true hol), if_pos hol, goA_cons]
      have ho := hi o (by simp)
      have e1 : addO (tO c lv os) o = tO c lv (os ++ [o]) := rfl
      rw [e1, tO_right hc hl, objsOk_snoc, h]
      have hb : bytefulB o.1 = true := decide_eq_true ho
      rw [hb]
      by_cases hs : 253 < 7 + sumO os + 2 + o.2.size
      · rw [if_pos hs, if_neg (by simp; omega)]
        rfl
      · rw [if_neg hs, if_pos (by simp; omega)]
        have e2 : 7 + sumO os + 2 + (o.2.size : Int) = 7 + sumO (os ++ [o]) := by simp [sumO]; omega
        rw [e2]
        refine goA_goR hc hl r (os ++ [o]) ?_ fun p hp => hi p (by simp [hp])
        rw [objsOk_snoc, h, hb]
        simp
        omega
    · rw [if_neg (by simpa using hol), if_neg hol]
      rfl
theorem filter_take {l : List Obj} (h : l.Pairwise fun a b => a.1 < b.1) (last : Int) : (l.filter fun o => decide (o.1 ≤ last)) = l.takeWhile fun o => decide (o.1 ≤ last) := by
  induction l with
  | nil => rfl
  | cons o l ih =>
    rw [List.pairwise_cons] at h
    rw [List.filter_cons, List.takeWhile_cons]
    by_cases ho : o.1 ≤ last
    · rw [if_pos (decide_eq_true ho), if_pos (decide_eq_true ho), ih h.2]
    · rw [if_neg (by simpa using ho), if_neg (by simpa using ho)]
      refine List.filter_eq_nil_iff.2 fun p hp => ?_
      have := h.1 p hp
      simp
      omega
theorem drop_takeWhile {α : Type} (p : α → Bool) : ∀ (l : List α) (k : Nat), k ≤ (l.takeWhile p).length → (l.takeWhile p).drop k = (l.drop k).takeWhile p
  | l, 0, _ => rfl
  | [], k + 1, _ => by simp
  | a :: l, k + 1, h => by
    rw [List.takeWhile_cons] at h ⊢
    cases ha : p a with
    | true =>
      rw [ha] at h
      simp only [if_true, List.length_cons] at h
      simp only [if_true, List.drop_succ_cons]
      exact drop_takeWhile p l k (by omega)
    | false => rw [ha] at h; simp at h
end Go.Proofs.YthddlkhfkncgpaaGreat
