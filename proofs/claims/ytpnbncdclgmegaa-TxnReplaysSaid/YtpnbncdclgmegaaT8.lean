/-
  What was written since: Clash, Fresh.
-/
import Derived.Test.YtpnbncdclgmegaaT7
set_option maxRecDepth 100000
set_option maxHeartbeats 1000000
set_option linter.unusedVariables false
set_option linter.unusedSimpArgs false
namespace Go.Proofs.Ytpnbncdclgmegaa
open Go.RowKit

theorem Tri.scopeR {P : Program} {N n0 m : Nat} {ρ : Env} {hl : List Ob} {x : AC} {res : List AR} {r : V} {hs : List Ob} (h : Tri P N n0 x ρ hl (RetQ res m r hs)) : Tri P N n0 (.scope x) ρ hl (RetQ res m r hs) :=
  Tri.scope (Tri.mono h fun ex ρ hl hq => by
    cases ex with
    | goto l => exact absurd hq.1 (by simp)
    | _ => exact hq)
def firstA (L : Chs) (q t : Int) : Nat → Int → Option Key
  | 0, _ => none
  | f + 1, a => if q < newL (chK L (t, a)) then some (t, a) else firstA L q t f (a + 1)
def clashS (L : Chs) (q : Int) : List Spn → Option Key
  | [] => none
  | s :: l => match firstA L q s.1 (s.2.2 - s.2.1).toNat s.2.1 with
    | some k => some k
    | none => clashS L q l
theorem clashS_cons (L : Chs) (q : Int) (s : Spn) (l : List Spn) : clashS L q (s :: l) = match firstA L q s.1 (s.2.2 - s.2.1).toNat s.2.1 with | some k => some k | none => clashS L q l := rfl
abbrev kOr (k : Option Key) : Key := k.getD (0, 0)
abbrev bxK (k : Key) : Ob := .box [.t (.int .i64 k.1), .t (.int .i64 k.2)]
abbrev clV (k : Option Key) : V := .tup [.agg [.t (.int .i64 (kOr k).1), .t (.int .i64 (kOr k).2)], .c (.t (.bool k.isSome))]
theorem clash_ok {s : St} (hs : StOk s) {R : List Spn} (hl : R.length ≤ 1000000000) (hr : ∀ x ∈ R, -1000000000 ≤ x.2.1 ∧ x.2.2 ≤ 1000000000) {q : Int} :
    FnOk Try.prog 78 [vC (.ptr 0 0), vSp R, vI .u64 q] [stB s 1, stM s] (clV (clashS s.L q R)) [stB s 1, stM s] := by
  refine FnOk.start t78 rfl rfl rfl ?_
  refine Tri.seq (Tri.go [] rfl trivial ?_)
  refine Tri.scopeR ?_
  refine Tri.seq (Tri.go [] rfl trivial ?_)
  refine Tri.seq (Tri.go [] rfl trivial ?_)
  refine Tri.seq (Tri.skip ?_)
  refine Tri.mid (fun ρ hl => hl = [stB s 1, stM s, bxK (0, 0), bxK (kOr (clashS s.L q R))] ∧ keepE ρ [6, 8, 9] = some [(6, vC (.ptr 2 0)), (8, vC (.ptr 3 0)), (9, vB (clashS s.L q R).isSome)]) ?_ ?_
  · refine Tri.seq (Tri.go [] rfl trivial ?_)
    refine Tri.block ?_
    refine Tri.lp (fun z ρ hl => ∃ i, z = R.length - i ∧ i ≤ R.length ∧ clashS s.L q R = clashS s.L q (R.drop i) ∧ hl = [stB s 1, stM s, bxK (0, 0), bxK (0, 0)] ∧
      keepE ρ [0, 2, 6, 8, 9, 14, 15, 16] = some [(0, vC (.ptr 0 0)), (2, vI .u64 q), (6, vC (.ptr 2 0)), (8, vC (.ptr 3 0)), (9, vB false), (14, vSp R), (15, vI .i64 R.length), (16, vI .i64 i)]) R.length ⟨0, by omega, by omega, rfl, rfl, keep_of rfl rfl⟩ ?_
    rintro z ρ hl' ⟨i, rfl, hi, he, rfl, hkk⟩
    refine Tri.keep _ hkk ?_
    by_cases h : i < R.length
    · have hg := rwS_get h
      have hx := hr _ (List.getElem_mem h)
      rw [List.drop_eq_getElem_cons h, clashS_cons] at he
      generalize R[i] = x at *
      obtain ⟨t, fr, to⟩ := x
      simp only at hg hx he
      refine Tri.seq (Tri.go [] rfl trivial (Tri.seq (Tri.go [.b 17 true] rfl ⟨decide_eq_true (by omega), trivial⟩ ?_)))
      refine Tri.mid (fun ρ hl => firstA s.L q t (to - fr).toNat fr = none ∧ hl = [stB s 1, stM s, bxK (0, 0), bxK (0, 0)] ∧ keepE ρ [0, 2, 6, 8, 9, 14, 15, 16] = some [(0, vC (.ptr 0 0)), (2, vI .u64 q), (6, vC (.ptr 2 0)), (8, vC (.ptr 3 0)), (9, vB false), (14, vSp R), (15, vI .i64 R.length), (16, vI .i64 i)]) ?_ ?_
      · refine Tri.block (Tri.seq (Tri.tree (.a (.at [.int .i64 t, .int .i64 fr, .int .i64 to]) .nil) rfl ⟨⟨by omega, rfl, hg⟩, by simp, ?_⟩))
        refine Tri.seq (Tri.go [] rfl trivial ?_)
        refine Tri.block ?_
        refine Tri.lp (fun z ρ hl => ∃ a : Int, z = (to - a).toNat ∧ fr ≤ a ∧ firstA s.L q t (to - fr).toNat fr = firstA s.L q t (to - a).toNat a ∧ hl = [stB s 1, stM s, bxK (0, 0), bxK (0, 0), .box [.t (.int .i64 t), .t (.int .i64 fr), .t (.int .i64 to)]] ∧
          keepE ρ [0, 2, 6, 8, 9, 11, 12, 14, 15, 16] = some [(0, vC (.ptr 0 0)), (2, vI .u64 q), (6, vC (.ptr 2 0)), (8, vC (.ptr 3 0)), (9, vB false), (11, vC (.ptr 4 0)), (12, vI .i64 a), (14, vSp R), (15, vI .i64 R.length), (16, vI .i64 i)]) (to - fr).toNat ⟨fr, rfl, by omega, rfl, rfl, keep_of rfl rfl⟩ ?_
        rintro z ρ hl' ⟨a, rfl, ha, hfa, rfl, hkk⟩
        refine Tri.keep _ hkk ?_
        by_cases h2 : a < to
        · have hf1 : (to - a).toNat = (to - (a + 1)).toNat + 1 := by omega
          rw [hf1, firstA] at hfa
          have hnw := sNewest_ok hs (t := t) (a := a)
          refine Tri.seq (Tri.go [.b 25 true] rfl ⟨decide_eq_true h2, trivial⟩ ?_)
          refine Tri.seq (Tri.block (Tri.seq (Tri.tree .nil rfl ?_)))
          by_cases h3 : newL (chK s.L (t, a)) ≤ q
          · rw [if_neg (by omega)] at hfa
            refine Tri.seq (Tri.tree (.o [0, 1] [] hnw (.a (.b 36 true) .nil)) rfl ⟨trivial, by simp [leVs, leP, leE, leL, leC], rfl, decide_eq_true h3, ?_⟩)
            refine Tri.let [0, 1, 2, 3, 4] [] [0, 2, 6, 8, 9, 11, 12, 14, 15, 16] rfl trivial ?_
            exact Tri.go [] rfl ⟨by omega, trivial⟩ (again (to - (a + 1)).toNat (by omega) ⟨a + 1, rfl, by omega, hfa, rfl, keep_of rfl (by simp)⟩)
          · rw [if_pos (by omega)] at hfa
            rw [hfa] at he
            refine Tri.seq (Tri.tree (.o [0, 1] [] hnw (.a (.b 36 false) .nil)) rfl ⟨trivial, by simp [leVs, leP, leE, leL, leC], rfl, decide_eq_false h3, ?_⟩)
            simp only at he
            rw [he]
            refine Tri.seq (Tri.go [] rfl trivial ?_)
            refine Tri.let [0, 1, 2, 3] [] [6, 8, 9] rfl trivial ?_
            exact Tri.exit (And.intro rfl (keep_of rfl rfl))
        · have hz : (to - a).toNat = 0 := by omega
          rw [hz, firstA] at hfa
          refine Tri.seq (Tri.seq (Tri.go [] rfl trivial ?_))
          refine Tri.let [0, 1, 2, 3] [] [0, 2, 6, 8, 9, 14, 15, 16, 25] rfl trivial ?_
          exact Tri.go [.b 25 false] rfl ⟨decide_eq_false h2, trivial⟩ (And.intro hfa (And.intro rfl (keep_of rfl rfl)))
      rintro ρ hl' ⟨hn, rfl, hkk⟩
      refine Tri.keep _ hkk ?_
      rw [hn] at he
      exact Tri.go [] rfl ⟨by omega, trivial⟩ (again (R.length - (i + 1)) (by omega) ⟨i + 1, rfl, by omega, he, rfl, keep_of rfl (by simp)⟩)
    · have : i = R.length := by omega
      subst this
      rw [List.drop_length] at he
      have he : clashS s.L q R = none := he
      rw [he]
      exact Tri.seq (Tri.go [] rfl trivial (Tri.seq (Tri.go [.b 17 false] rfl ⟨decide_eq_false (by omega), trivial⟩ (And.intro rfl (keep_of rfl rfl)))))
  rintro ρ hl' ⟨rfl, hkk⟩
  refine Tri.keep _ hkk ?_
  refine Tri.treeR (.a (.call [0, 1] [] .u []) .nil) rfl ?_
  simp [leP, leE, leEs, leL, leC]
  exact .refl _
theorem fresh_ok {s : St} (hs : StOk s) {R : List Spn} (hl : R.length ≤ 1000000000) (hr : ∀ x ∈ R, -1000000000 ≤ x.2.1 ∧ x.2.2 ≤ 1000000000) {q : Int} :
    FnOk Try.prog 52 [vC (.ptr 0 0), vSp R, vI .u64 q] [stB s 1, stM s] (vB (!(clashS s.L q R).isSome)) [stB s 1, stM s] := by
  have hc := clash_ok hs hl hr (q := q)
  refine FnOk.tree t52 (.o [0, 1] [] hc (.a (.call [0, 1] [] .u []) .nil)) rfl rfl rfl rfl ?_
  refine ⟨trivial, by simp [leVs, leP, leE, leL, leC], rfl, ?_⟩
  simp [leP, leE, leEs, leL, leC]
  exact .refl _
end Go.Proofs.Ytpnbncdclgmegaa
