/-
  Chapter 22: the book's functions but Tick: the program's (a map) and the document's (a list).
-/
import Derived.Test.YtkahpdbmgmiaiaaAf
import Derived.Test.YtkahpdbmgmiaiaaKD
set_option maxRecDepth 100000
set_option maxHeartbeats 1000000
set_option linter.unusedVariables false
set_option linter.unusedSimpArgs false
namespace Go.Proofs.Ytkahpdbmgmiaiaa
open Go.RowKit

abbrev b64 (k : Int) : Prop := -9223372036854775808 ≤ k ∧ k ≤ 9223372036854775807
theorem tm (k n : Int) (hn : 0 < n) : -n < k.tmod n ∧ k.tmod n < n ∧ (k.tmod n < 0 → k.tmod n + n = k % n) ∧ (¬ k.tmod n < 0 → k.tmod n = k % n) := by
  have h1 := Int.tmod_eq_emod (a := k) (b := n)
  have h2 := Int.emod_nonneg k (by omega : n ≠ 0)
  have h3 := Int.emod_lt_of_pos k hn
  split at h1 <;> omega
theorem tdiv_b64 {k d : Int} (hk : b64 k) (hd : 0 < d) : b64 (k.tdiv d) := by
  have h := Int.natAbs_tdiv_le_natAbs k d
  rcases Int.lt_or_le k 0 with e | e
  · have h3 := Int.tdiv_nonneg (a := -k) (b := d) (by omega) (by omega)
    rw [Int.neg_tdiv] at h3
    constructor <;> omega
  · have h3 := Int.tdiv_nonneg e (by omega : 0 ≤ d)
    constructor <;> omega
theorem within_ok {k n : Int} (hk : b64 k) (hn : 0 < n ∧ n ≤ 9223372036854775807) : FnOk Try.prog 7 [vI .i64 k, vI .i64 n] [] (vI .i64 (k % n)) [] := by
  obtain ⟨h1, h2, h3, h4⟩ := tm k n hn.1
  by_cases h : k.tmod n < 0
  · exact FnOk.go t7 [.b 9 true] [] [] rfl rfl rfl rfl rfl rfl rfl (by simp <;> omega) trivial (.of (by rw [h3 h]))
  · exact FnOk.go t7 [.b 9 false] [] [] rfl rfl rfl rfl rfl rfl rfl (by simp <;> omega) trivial (.of (by rw [h4 h]))
def dig (k d n : Int) : Int := k.tdiv d % n
theorem digit_ok {k d n : Int} (hk : b64 k) (hd : 0 < d ∧ d ≤ 9223372036854775807) (hn : 0 < n ∧ n ≤ 9223372036854775807) : FnOk Try.prog 10 [vI .i64 k, vI .i64 d, vI .i64 n] [] (vI .i64 (dig k d n)) [] := by
  have hb : b64 (k.tdiv d) := tdiv_b64 hk hd.1
  refine FnOk.go t10 [.lend [] (vI .i64 (dig k d n))] [] [] rfl rfl rfl rfl rfl rfl rfl ⟨by omega, trivial, ?_, trivial⟩ trivial (.refl _)
  rw [IntWalk.i64_in _ hb]
  exact within_ok hb hn
/-- How many ticks a lease has. -/
def capT (t : Int) : Int := if (if t < 1 then 1 else t) > 65535 then 65535 else (if t < 1 then 1 else t)
theorem capT_rng (t : Int) : 1 ≤ capT t ∧ capT t ≤ 65535 := by unfold capT; split <;> split <;> omega
abbrev bkO (t : Int) : Ob := .box [.t (.int .i64 t), .mp 1]
theorem lNew_ok {t : Int} : FnOk Try.prog 8 [vI .i64 t] [] (vC (.ptr 0 0)) [bkO (capT t), .mp false ⟨0, []⟩] := by
  refine FnOk.tree t8 (.a (.call [1, 0] [] .u []) .nil) rfl rfl rfl rfl ?_
  simp [leVs, leP, leE, leC, capT]
  exact LeOs.of rfl
/-- The program's book: stamps, owners, what is left. -/
structure Bk where
  ck : Nat
  es : List (Nat × Int × Int)
def mpE (e : Nat × Int × Int) : Nat × Int × List D := (e.1, e.2.1, [.int .i64 e.2.2])
def Bk.mp (b : Bk) : Mp := ⟨b.ck, b.es.map mpE⟩
def Bk.at (b : Bk) (k : Int) : Nat := b.es.findIdx fun e => e.2.1 == k
def Bk.get (b : Bk) (k : Int) : Option Int := (b.es[b.at k]?).map (·.2.2)
def Bk.set (b : Bk) (k n : Int) : Bk := if b.at k < b.es.length then ⟨b.ck, b.es.modify (b.at k) fun e => (e.1, e.2.1, n)⟩ else ⟨b.ck + 1, b.es ++ [(b.ck, k, n)]⟩
def Bk.del (b : Bk) (k : Int) : Bk := ⟨b.ck, b.es.eraseIdx (b.at k)⟩
theorem Bk.at_eq (b : Bk) (k : Int) : b.mp.at k = b.at k := by
  unfold Mp.at Bk.at Bk.mp
  rw [List.findIdx_map]
  rfl
theorem Bk.get_eq (b : Bk) (k : Int) : b.mp.get k = (b.get k).map fun n => [.int .i64 n] := by
  unfold Mp.get Bk.get
  rw [Bk.at_eq]
  simp [Bk.mp, mpE]
  cases b.es[b.at k]? <;> rfl
theorem Bk.set_eq (b : Bk) (k n : Int) : b.mp.set k [.int .i64 n] = (b.set k n).mp := by
  unfold Mp.set Bk.set
  rw [Bk.at_eq]
  have : b.mp.es.length = b.es.length := by simp [Bk.mp]
  rw [this]
  split
  · simp only [Bk.mp, Mp.mk.injEq, true_and]
    apply List.ext_getElem?
    intro i
    simp [List.getElem?_modify]
    cases b.es[i]? with
    | none => rfl
    | some e => by_cases h : b.at k = i <;> simp [h, mpE]
  · simp [Bk.mp, mpE]
theorem Bk.del_eq (b : Bk) (k : Int) : b.mp.del k = (b.del k).mp := by
  unfold Mp.del Bk.del
  rw [Bk.at_eq]
  simp only [Bk.mp, Mp.mk.injEq, true_and]
  apply List.ext_getElem?
  intro i
  simp [List.getElem?_eraseIdx]
  split <;> rfl
abbrev bkM (b : Bk) : Ob := .mp false b.mp
theorem hear_ok {t k : Int} {b : Bk} : FnOk Try.prog 14 [vC (.ptr 0 0), vI .i64 k] [bkO t, bkM b] (.tup []) [bkO t, bkM (b.set k t)] := by
  refine FnOk.tree t14 (.a (.call [0, 1] [] .u []) .nil) rfl rfl rfl rfl ?_
  have e := b.set_eq k t
  exact ⟨trivial, trivial, LeOs.of (by rw [e]), trivial⟩
theorem drop_ok {t k : Int} {b : Bk} : FnOk Try.prog 16 [vC (.ptr 0 0), vI .i64 k] [bkO t, bkM b] (vB (b.get k).isSome) [bkO t, bkM (b.del k)] := by
  have e := b.del_eq k
  have hg := b.get_eq k
  cases h : b.get k with
  | some n =>
    rw [h] at hg
    refine FnOk.tree t16 (.a (.mp (some [.int .i64 n])) (.a (.call [0, 1] [] .u []) .nil)) rfl rfl rfl rfl ?_
    exact ⟨⟨hg, rfl⟩, trivial, trivial, LeOs.of (by rw [e]), by simp [leP, leE, leC]⟩
  | none =>
    rw [h] at hg
    refine FnOk.tree t16 (.a (.mp none) (.a (.call [0, 1] [] .u []) .nil)) rfl rfl rfl rfl ?_
    exact ⟨hg, trivial, trivial, LeOs.of (by rw [e]), by simp [leP, leE, leC]⟩
abbrev leftR (r : Option Int) : V := .tup [.c (.t (.int .i64 (r.getD 0))), .c (.t (.bool r.isSome))]
theorem left_ok {t k : Int} {b : Bk} : FnOk Try.prog 18 [vC (.ptr 0 0), vI .i64 k] [bkO t, bkM b] (leftR (b.get k)) [bkO t, bkM b] := by
  have hg := b.get_eq k
  cases h : b.get k with
  | some n =>
    rw [h] at hg
    refine FnOk.tree t18 (.a (.mp (some [.int .i64 n])) (.a (.call [0, 1] [] .u []) .nil)) rfl rfl rfl rfl ?_
    refine ⟨⟨hg, rfl⟩, trivial, LeOs.of rfl, ?_⟩
    simp [leP, leE, leC]
  | none =>
    rw [h] at hg
    refine FnOk.tree t18 (.a (.mp none) (.a (.call [0, 1] [] .u []) .nil)) rfl rfl rfl rfl ?_
    refine ⟨hg, trivial, LeOs.of rfl, ?_⟩
    simp [leP, leE, leC]
/-- The document's book. -/
def rwL (L : List (Int × Int)) : List (List D) := L.map fun p => [.int .i64 p.1, .int .i64 p.2]
@[simp] theorem rwL_len (L : List (Int × Int)) : (rwL L).length = L.length := by simp [rwL]
theorem rwL_get {L : List (Int × Int)} {i : Nat} (h : i < L.length) : (rwL L)[i]? = some [.int .i64 L[i].1, .int .i64 L[i].2] := by simp [rwL, h]
theorem rwL_app (L M : List (Int × Int)) : rwL L ++ rwL M = rwL (L ++ M) := by simp [rwL]
abbrev lLf (L : List (Int × Int)) : D := .ls 2 L.length (rwL L)
abbrev rB (t : Int) (L : List (Int × Int)) : Ob := .box [.t (.int .i64 t), .t (lLf L)]
theorem rNew_ok {t : Int} : FnOk Try.prog 9 [vI .i64 t] [] (vC (.ptr 0 0)) [rB (capT t) []] := by
  refine FnOk.tree t9 (.a (.call [0] [] .u []) .nil) rfl rfl rfl rfl ?_
  simp [leVs, leP, leE, leC, capT]
  exact .cons (.box (.cons (.refl _) (.cons (.t (.nil 2)) .nil))) .nil
theorem rLeft_ok {t k : Int} {L : List (Int × Int)} (hl : L.length ≤ 1000000) : FnOk Try.prog 19 [vC (.ptr 0 0), vI .i64 k] [rB t L] (leftR ((L.find? fun p => p.1 == k).map (·.2))) [rB t L] := by
  refine FnOk.start t19 rfl rfl rfl ?_
  refine Tri.seq (Tri.go [] rfl trivial ?_)
  refine Tri.seq (Tri.seq (Tri.go [] rfl trivial ?_))
  refine Tri.block ?_
  refine Tri.lp (fun q ρ hl => ∃ i, q = L.length - i ∧ i ≤ L.length ∧ (L.find? fun p => p.1 == k) = ((L.drop i).find? fun p => p.1 == k) ∧ hl = [rB t L] ∧ keepE ρ [0, 1, 6] = some [(0, vC (.ptr 0 0)), (1, vI .i64 k), (6, vI .i64 i)]) L.length ⟨0, by omega, by omega, rfl, rfl, keep_of rfl rfl⟩ ?_
  rintro q ρ hl' ⟨i, rfl, hi, he, rfl, hkk⟩
  refine Tri.keep _ hkk ?_
  by_cases h : i < L.length
  · have hg := rwL_get h
    have hd : L.drop i = L[i] :: L.drop (i + 1) := List.drop_eq_getElem_cons h
    rw [hd, List.find?_cons] at he
    generalize L[i] = p at *
    obtain ⟨p1, p2⟩ := p
    simp only at hg he
    refine Tri.seq (Tri.go [.b 13 true] rfl ⟨decide_eq_true (by omega), trivial⟩ ?_)
    by_cases hk : p1 = k
    · subst hk
      simp only [beq_self_eq_true] at he
      rw [he]
      refine Tri.seq (Tri.block (Tri.tree (.a (.at [.int .i64 p1, .int .i64 p2]) (.a (.b 25 true) (.a (.at [.int .i64 p1, .int .i64 p2]) .nil))) rfl ⟨⟨by omega, rfl, hg⟩, by simp, ⟨by omega, rfl, hg⟩, RetQ.of [0] [] rfl trivial (.refl _) rfl⟩))
    · have hk' : (p1 == k) = false := by simpa using hk
      simp only [hk'] at he
      refine Tri.seq (Tri.block (Tri.tree (.a (.at [.int .i64 p1, .int .i64 p2]) (.a (.b 25 false) .nil)) rfl ⟨⟨by omega, rfl, hg⟩, hk', ?_⟩))
      refine Tri.let [0] [] [0, 1, 6] rfl trivial ?_
      refine Tri.go [] rfl ⟨by omega, trivial⟩ (again (L.length - (i + 1)) (by omega) ⟨i + 1, rfl, by omega, he, rfl, keep_of rfl (by simp)⟩)
  · have : L.drop i = [] := List.drop_eq_nil_of_le (by omega)
    rw [this] at he
    rw [he]
    refine Tri.go [.b 13 false] rfl ⟨decide_eq_false (by omega), trivial⟩ (outQ ?_)
    refine Tri.treeR (.a (.call [0] [] .u []) .nil) rfl ?_
    exact ⟨trivial, LeOs.of rfl, by simp [leP, leE, leC]⟩
theorem rDrop_ok {t k : Int} {L : List (Int × Int)} (hl : L.length ≤ 1000000) : FnOk Try.prog 17 [vC (.ptr 0 0), vI .i64 k] [rB t L] (vB (decide ((L.filter fun p => p.1 != k).length < L.length))) [rB t (L.filter fun p => p.1 != k)] := by
  refine FnOk.start t17 rfl rfl rfl ?_
  refine Tri.seq (Tri.go [] rfl trivial ?_)
  refine Tri.seq (Tri.go [] rfl trivial ?_)
  refine Tri.seq (Tri.seq (Tri.go [] rfl trivial ?_))
  refine Tri.block ?_
  refine Tri.own 5 2 (by omega) rfl ?_
  refine Tri.lp (fun q ρ hl => ∃ i M, q = L.length - i ∧ i ≤ L.length ∧ M.length ≤ i ∧ (L.filter fun p => p.1 != k) = M ++ ((L.drop i).filter fun p => p.1 != k) ∧ hl = [rB t L, .arr 2 (rwL M)] ∧ keepE ρ [0, 1, 5, 6] = some [(0, vC (.ptr 0 0)), (1, vI .i64 k), (5, vC (.sl 1 0 M.length)), (6, vI .i64 i)]) L.length ⟨0, [], by omega, by omega, by simp, rfl, rfl, keep_of rfl rfl⟩ ?_
  rintro q ρ hl' ⟨i, M, rfl, hi, hM, he, rfl, hkk⟩
  refine Tri.keep _ hkk ?_
  by_cases h : i < L.length
  · have hg := rwL_get h
    have hd : L.drop i = L[i] :: L.drop (i + 1) := List.drop_eq_getElem_cons h
    rw [hd, List.filter_cons] at he
    generalize L[i] = p at *
    obtain ⟨p1, p2⟩ := p
    simp only at hg he
    refine Tri.seq (Tri.go [.b 14 true] rfl ⟨decide_eq_true (by omega), trivial⟩ ?_)
    by_cases hk : p1 = k
    · have hk' : (p1 != k) = false := by simpa using hk
      rw [hk'] at he
      refine Tri.seq (Tri.block (Tri.tree (.a (.at [.int .i64 p1, .int .i64 p2]) (.a (.b 26 false) .nil)) rfl ⟨⟨by omega, rfl, hg⟩, hk', ?_⟩))
      refine Tri.let [0, 1] [] [0, 1, 5, 6] rfl trivial ?_
      refine Tri.go [] rfl ⟨by omega, trivial⟩ (again (L.length - (i + 1)) (by omega) ⟨i + 1, M, rfl, by omega, by omega, he, rfl, keep_of rfl (by simp)⟩)
    · have hk' : (p1 != k) = true := by simpa using hk
      rw [hk'] at he
      refine Tri.seq (Tri.block (Tri.tree (.a (.at [.int .i64 p1, .int .i64 p2]) (.a (.b 26 true) (.a (.at [.int .i64 p1, .int .i64 p2]) .nil))) rfl ?_))
      refine ⟨⟨by omega, rfl, hg⟩, hk', ⟨by omega, rfl, hg⟩, by simp, ⟨⟨rfl, by simp⟩, trivial⟩, ⟨.inr rfl, rfl, by simp, by simp, by omega, by omega⟩, ?_⟩
      refine Tri.let [0, 2] [] [0, 1, 5, 6] rfl trivial ?_
      refine Tri.go [] rfl ⟨by omega, trivial⟩ (again (L.length - (i + 1)) (by omega) ⟨i + 1, M ++ [(p1, p2)], rfl, by omega, by simp; omega, by rw [he]; simp, ?_, keep_of rfl (by simp)⟩)
      rw [← rwL_app]
      rfl
  · have : L.drop i = [] := List.drop_eq_nil_of_le (by omega)
    rw [this, List.filter_nil, List.append_nil] at he
    rw [he]
    refine Tri.go [.b 14 false] rfl ⟨decide_eq_false (by omega), trivial⟩ (outQ ?_)
    refine Tri.let [0] [1] [0, 1, 5] rfl ⟨by simp, trivial⟩ ?_
    refine Tri.treeR (.a (.call [0] [] .u []) .nil) rfl ?_
    simp [leP, leE, leC]
    exact LeOs.of rfl
theorem rHear_ok {t k : Int} {L : List (Int × Int)} (hl : L.length ≤ 1000000) : FnOk Try.prog 15 [vC (.ptr 0 0), vI .i64 k] [rB t L] (.tup [])
    [rB t (((L.filter fun p => p.1 != k).takeWhile fun p => decide (p.1 < k)) ++ (k, t) :: ((L.filter fun p => p.1 != k).dropWhile fun p => decide (p.1 < k)))] := by
  have hd := rDrop_ok (t := t) (k := k) hl
  have hl1 : (L.filter fun p => p.1 != k).length ≤ 1000000 := Nat.le_trans (List.length_filter_le _ _) hl
  generalize (L.filter fun p => p.1 != k) = L1 at *
  refine FnOk.start t15 rfl rfl rfl ?_
  refine Tri.seq (Tri.tree (.o [0] [] hd .nil) rfl ⟨trivial, ⟨leP_refl _, leP_refl _, trivial⟩, rfl, ?_⟩)
  refine Tri.seq (Tri.go [] rfl trivial ?_)
  refine Tri.mid (fun ρ hl => ∃ i, i ≤ L1.length ∧ (L1.takeWhile fun p => decide (p.1 < k)) = L1.take i ∧ hl = [rB t L1, .arr 2 (rwL (L1.take i))] ∧ keepE ρ [0, 1, 4] = some [(0, vC (.ptr 0 0)), (1, vI .i64 k), (4, vC (.sl 1 0 i))]) ?_ ?_
  · refine Tri.seq (Tri.go [] rfl trivial ?_)
    refine Tri.block ?_
    refine Tri.own 4 2 (by omega) rfl ?_
    refine Tri.lp (fun q ρ hl => ∃ i, q = L1.length - i ∧ i ≤ L1.length ∧ (L1.takeWhile fun p => decide (p.1 < k)) = L1.take i ++ ((L1.drop i).takeWhile fun p => decide (p.1 < k)) ∧ hl = [rB t L1, .arr 2 (rwL (L1.take i))] ∧ keepE ρ [0, 1, 4, 5] = some [(0, vC (.ptr 0 0)), (1, vI .i64 k), (4, vC (.sl 1 0 i)), (5, vI .i64 i)]) L1.length ⟨0, by omega, by omega, rfl, rfl, keep_of rfl rfl⟩ ?_
    rintro q ρ hl' ⟨i, rfl, hi, he, rfl, hkk⟩
    refine Tri.keep _ hkk ?_
    have hti : (L1.take i).length = i := by simp; omega
    by_cases h : i < L1.length
    · have hg := rwL_get h
      have hd' : L1.drop i = L1[i] :: L1.drop (i + 1) := List.drop_eq_getElem_cons h
      have hts : L1.take (i + 1) = L1.take i ++ [L1[i]] := (List.take_append_getElem h).symm
      rw [hd', List.takeWhile_cons] at he
      generalize L1[i] = p at *
      obtain ⟨p1, p2⟩ := p
      simp only at hg he
      by_cases hk : p1 < k
      · rw [if_pos (decide_eq_true hk)] at he
        refine Tri.seq (Tri.tree (.a (.b 17 true) (.a (.at [.int .i64 p1, .int .i64 p2]) (.a (.b 28 true) .nil))) rfl ⟨decide_eq_true (by omega), ⟨by omega, rfl, hg⟩, by simp; omega, ?_⟩)
        refine Tri.seq (Tri.block (Tri.tree (.a (.at [.int .i64 p1, .int .i64 p2]) .nil) rfl ?_))
        refine ⟨⟨by omega, rfl, hg⟩, by simp, ⟨⟨rfl, by simp⟩, trivial⟩, ⟨.inr rfl, rfl, by simp [hti], by simp, by omega, by omega⟩, ?_⟩
        refine Tri.let [0, 2] [] [0, 1, 4, 5] rfl trivial ?_
        refine Tri.go [] rfl ⟨by omega, trivial⟩ (again (L1.length - (i + 1)) (by omega) ⟨i + 1, rfl, by omega, by rw [he, hts]; simp, ?_, keep_of rfl (by simp)⟩)
        rw [hts, ← rwL_app]
        rfl
      · rw [if_neg (by simpa using hk), List.append_nil] at he
        exact Tri.seq (Tri.tree (.a (.b 17 true) (.a (.at [.int .i64 p1, .int .i64 p2]) (.a (.b 28 false) .nil))) rfl ⟨decide_eq_true (by omega), ⟨by omega, rfl, hg⟩, by simp; omega, i, hi, he, rfl, keep_of rfl (by simp)⟩)
    · have : L1.drop i = [] := List.drop_eq_nil_of_le (by omega)
      rw [this, List.takeWhile_nil, List.append_nil] at he
      exact Tri.seq (Tri.tree (.a (.b 17 false) .nil) rfl ⟨decide_eq_false (by omega), i, hi, he, rfl, keep_of rfl (by simp)⟩)
  rintro ρ hl' ⟨i, hi, he, rfl, hkk⟩
  refine Tri.keep _ hkk ?_
  have hti : (L1.take i).length = i := by simp; omega
  have hdw : (L1.dropWhile fun p => decide (p.1 < k)) = L1.drop i := by
    have h1 := List.takeWhile_append_dropWhile (p := fun p : Int × Int => decide (p.1 < k)) (l := L1)
    rw [he] at h1
    have h2 := List.take_append_drop i L1
    exact List.append_cancel_left (h1.trans h2.symm)
  rw [he, hdw]
  refine Tri.seq (Tri.go [] rfl trivial ?_)
  refine Tri.seq (Tri.tree .nil rfl ⟨⟨⟨rfl, by simp⟩, trivial⟩, ⟨.inr rfl, rfl, hti.symm.trans (rwL_len _).symm, by simp, by omega, by omega⟩, ?_⟩)
  refine Tri.endF 3 0 1 (Tri.tree .nil rfl ?_)
  refine ⟨⟨by simp, by simp; omega, by simp, rfl⟩, ⟨.inr rfl, rfl, by simp [hti], by simp, by simp; omega, by simp; omega⟩, _, ⟨_, _, _, _, _, rfl, rfl, rfl, ?_, rfl⟩, RetQ.ends rfl (RetQ.le [0] [] rfl trivial (.refl _) (.cons (.box (.cons (.refl _) (.cons (.t (.cut ?_ ?_)) .nil))) .nil))⟩
  · simp [hti]; omega
  · simp [hti]; omega
  · have e1 : ((L1.length : Int).toNat - (i : Int).toNat) = L1.length - i := by omega
    simp [hti, rwL, ← List.map_take, ← List.map_drop]
    rw [List.take_of_length_le (by simp; omega)]
    simp [List.take_of_length_le]
end Go.Proofs.Ytkahpdbmgmiaiaa
