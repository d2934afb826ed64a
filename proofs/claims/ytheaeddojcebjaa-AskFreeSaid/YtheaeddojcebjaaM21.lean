/-
  The law AskNames.
-/
import Derived.Test.YtheaeddojcebjaaM20
set_option maxRecDepth 100000
set_option maxHeartbeats 4000000
set_option linter.unusedVariables false
set_option linter.unusedSimpArgs false
namespace Go.Proofs.Ytheaeddojcebjaa
open Go.RowKit

def nSp : List Sp → Int
  | [] => 0
  | s :: _ => 0 + s.2.2 - s.2.1
def tSp (t : Int) (ok : Bool) : List Sp → Bool
  | [] => ok
  | s :: _ => bif ok then s.1 == t else false
theorem tSp_cons (t : Int) (ok : Bool) (s : Sp) (l : List Sp) : tSp t ok (s :: l) = bif ok then s.1 == t else false := rfl
theorem nSp_cons (s : Sp) (l : List Sp) : nSp (s :: l) = 0 + s.2.2 - s.2.1 := rfl
theorem spans_few (a : Ask) : (spans a).1.length ≤ 1 ∧ (spans a).2.length ≤ 1 := by
  unfold spans
  repeat' split
  all_goals simp
def SpB (l : List Sp) : Prop := ∀ s ∈ l, (0 ≤ s.2.1 ∧ s.2.1 ≤ 1000000) ∧ 0 ≤ s.2.2 ∧ s.2.2 ≤ 1000000
theorem spans_b {a : Ask} (h : a.right = true) : SpB (spans a).1 ∧ SpB (spans a).2 := by
  have hk := right_known h
  have h' := h
  obtain ⟨fn, at_, n, vl, an, og, bs, ws, ra, rn, cd, ob⟩ := a
  have hfn := of_decide_eq_true hk
  simp only at hfn
  clear hk
  rcases hfn with rfl | rfl | rfl | rfl | rfl | rfl | rfl | rfl | rfl | rfl | rfl
  all_goals
    simp [Ask.right, Ask.same, Ask.only, Ask.rest, known, countsB, kMost, placeB] at h
    refine ⟨fun s hs => ?_, fun s hs => ?_⟩ <;> simp [spans, h'] at hs <;> subst hs <;> simp <;> omega

theorem askNames_ok {k v : Int} (hk : b64 k) (hv : b64 v) : FnOk Try.prog 7 [vI .i64 k, vI .i64 v] [] (vB true) [] := by
  have haw := awake5_ok
  have hg := askG_ok hk hv
  obtain ⟨hf, hr⟩ := askG_fit k v
  have hs := spans_ok hf
  have ht := rTable_ok (askG k v).fn
  obtain ⟨b1, b2⟩ := spans_b hr
  obtain ⟨f1, f2⟩ := spans_few (askG k v)
  generalize askG k v = a at *
  refine FnOk.start t7 rfl rfl rfl ?_
  refine Tri.seq (Tri.go [] rfl trivial ?_)
  refine Tri.seq (Tri.tree (.f [] haw .nil) rfl ⟨trivial, trivial, ?_⟩)
  refine Tri.seq (Tri.tree (.f [] hg .nil) rfl ⟨trivial, by simp [leVs, leP, leE, leC], ?_⟩)
  refine Tri.seq (Tri.tree (.f [] hs .nil) rfl ⟨trivial, by simp [leVs], ?_⟩)
  refine Tri.seq (Tri.tree (.f [] ht .nil) rfl ⟨trivial, by simp [leVs], ?_⟩)
  refine Tri.seq (Tri.go [] rfl trivial ?_)
  refine Tri.mid (fun ρ hl => hl = [.box a.cs] ∧ keepE ρ [5, 6, 7, 8, 9, 10, 11] = some [(5, vC (.ptr 0 0)), (6, vD (lSp (spans a).1)), (7, vD (lSp (spans a).2)), (8, vI .i64 (rTab a.fn).1), (9, vB (tSp (rTab a.fn).1 (rTab a.fn).2 (spans a).1)), (10, vI .i64 (nSp (spans a).1)), (11, vI .i64 0)]) ?_ ?_
  · obtain ⟨l, hl⟩ : ∃ l, (spans a).1 = l := ⟨_, rfl⟩
    rw [hl] at b1 f1 ⊢
    refine Tri.seq (Tri.go [] rfl trivial ?_)
    refine Tri.block ?_
    refine Tri.lp (fun q ρ hl => hl = [.box a.cs] ∧ ((q = l.length ∧ keepE ρ [5, 6, 7, 8, 9, 10, 11, 12] = some [(5, vC (.ptr 0 0)), (6, vD (lSp l)), (7, vD (lSp (spans a).2)), (8, vI .i64 (rTab a.fn).1), (9, vB (rTab a.fn).2), (10, vI .i64 0), (11, vI .i64 0), (12, vI .i64 0)]) ∨ (q = 0 ∧ keepE ρ [5, 6, 7, 8, 9, 10, 11, 12] = some [(5, vC (.ptr 0 0)), (6, vD (lSp l)), (7, vD (lSp (spans a).2)), (8, vI .i64 (rTab a.fn).1), (9, vB (tSp (rTab a.fn).1 (rTab a.fn).2 l)), (10, vI .i64 (nSp l)), (11, vI .i64 0), (12, vI .i64 l.length)]))) l.length ⟨rfl, .inl ⟨rfl, keep_of rfl rfl⟩⟩ ?_
    rintro q ρ hl' ⟨rfl, hh⟩
    cases l with
    | nil =>
      have hk : keepE ρ [5, 6, 7, 8, 9, 10, 11, 12] = some [(5, vC (.ptr 0 0)), (6, vD (lSp [])), (7, vD (lSp (spans a).2)), (8, vI .i64 (rTab a.fn).1), (9, vB (rTab a.fn).2), (10, vI .i64 0), (11, vI .i64 0), (12, vI .i64 0)] := by
        rcases hh with ⟨_, h⟩ | ⟨_, h⟩
        · exact h
        · exact h
      refine Tri.keep _ hk ?_
      refine Tri.go [.b 34 false] rfl ⟨by simp, trivial⟩ (outQ ?_)
      exact ⟨rfl, keep_of rfl rfl⟩
    | cons s l' =>
      have hl0 : l' = [] := by cases l' with
        | nil => rfl
        | cons _ _ => simp at f1
      subst hl0
      rcases hh with ⟨hq, hk⟩ | ⟨rfl, hk⟩
      · refine Tri.keep _ hk ?_
        have hb := b1 s (by simp)
        have g0 := spRows_get (l := [s]) (i := 0) (by simp)
        simp only [List.getElem_cons_zero] at g0
        obtain ⟨s1, s2, s3⟩ := s
        simp only at hb g0
        refine Tri.tree (.a (.b 34 true) (.a (.at [.int .i64 s1, .int .i64 s2, .int .i64 s3]) (.a (.at [.int .i64 s1, .int .i64 s2, .int .i64 s3]) (.br 51 (.a (.at [.int .i64 s1, .int .i64 s2, .int .i64 s3]) .nil) .nil)))) rfl ?_
        refine ⟨by simp, ⟨by simp, rfl, g0⟩, by omega, ⟨by simp, rfl, g0⟩, by omega, fun hb => ⟨⟨by simp, rfl, g0⟩, by omega, 0, by rw [hq]; exact Nat.zero_lt_one, rfl, .inr ⟨rfl, keep_of rfl ?_⟩⟩, fun hb => ⟨by omega, 0, by rw [hq]; exact Nat.zero_lt_one, rfl, .inr ⟨rfl, keep_of rfl ?_⟩⟩⟩
        · simp only [tSp_cons, nSp_cons, hb]; simp
        · simp only [tSp_cons, nSp_cons, hb]; simp
      · refine Tri.keep _ hk ?_
        refine Tri.go [.b 34 false] rfl ⟨by simp, trivial⟩ (outQ ?_)
        exact ⟨rfl, keep_of rfl rfl⟩
  rintro ρ hl' ⟨rfl, hk1⟩
  refine Tri.keep _ hk1 ?_
  refine Tri.mid (fun ρ hl => hl = [.box a.cs] ∧ keepE ρ [5, 6, 7, 8, 9, 10, 11] = some [(5, vC (.ptr 0 0)), (6, vD (lSp (spans a).1)), (7, vD (lSp (spans a).2)), (8, vI .i64 (rTab a.fn).1), (9, vB (tSp (rTab a.fn).1 (tSp (rTab a.fn).1 (rTab a.fn).2 (spans a).1) (spans a).2)), (10, vI .i64 (nSp (spans a).1)), (11, vI .i64 (nSp (spans a).2))]) ?_ ?_
  · obtain ⟨l, hl⟩ : ∃ l, (spans a).2 = l := ⟨_, rfl⟩
    rw [hl] at b2 f2 ⊢
    refine Tri.seq (Tri.go [] rfl trivial ?_)
    refine Tri.block ?_
    refine Tri.lp (fun q ρ hl => hl = [.box a.cs] ∧ ((q = l.length ∧ keepE ρ [5, 6, 7, 8, 9, 10, 11, 13] = some [(5, vC (.ptr 0 0)), (6, vD (lSp (spans a).1)), (7, vD (lSp l)), (8, vI .i64 (rTab a.fn).1), (9, vB (tSp (rTab a.fn).1 (rTab a.fn).2 (spans a).1)), (10, vI .i64 (nSp (spans a).1)), (11, vI .i64 0), (13, vI .i64 0)]) ∨ (q = 0 ∧ keepE ρ [5, 6, 7, 8, 9, 10, 11, 13] = some [(5, vC (.ptr 0 0)), (6, vD (lSp (spans a).1)), (7, vD (lSp l)), (8, vI .i64 (rTab a.fn).1), (9, vB (tSp (rTab a.fn).1 (tSp (rTab a.fn).1 (rTab a.fn).2 (spans a).1) l)), (10, vI .i64 (nSp (spans a).1)), (11, vI .i64 (nSp l)), (13, vI .i64 l.length)]))) l.length ⟨rfl, .inl ⟨rfl, keep_of rfl rfl⟩⟩ ?_
    rintro q ρ hl' ⟨rfl, hh⟩
    cases l with
    | nil =>
      have hk : keepE ρ [5, 6, 7, 8, 9, 10, 11, 13] = some [(5, vC (.ptr 0 0)), (6, vD (lSp (spans a).1)), (7, vD (lSp [])), (8, vI .i64 (rTab a.fn).1), (9, vB (tSp (rTab a.fn).1 (rTab a.fn).2 (spans a).1)), (10, vI .i64 (nSp (spans a).1)), (11, vI .i64 0), (13, vI .i64 0)] := by
        rcases hh with ⟨_, h⟩ | ⟨_, h⟩
        · exact h
        · exact h
      refine Tri.keep _ hk ?_
      refine Tri.go [.b 63 false] rfl ⟨by simp, trivial⟩ (outQ ?_)
      exact ⟨rfl, keep_of rfl rfl⟩
    | cons s l' =>
      have hl0 : l' = [] := by cases l' with
        | nil => rfl
        | cons _ _ => simp at f2
      subst hl0
      rcases hh with ⟨hq, hk⟩ | ⟨rfl, hk⟩
      · refine Tri.keep _ hk ?_
        have hb := b2 s (by simp)
        have g0 := spRows_get (l := [s]) (i := 0) (by simp)
        simp only [List.getElem_cons_zero] at g0
        obtain ⟨s1, s2, s3⟩ := s
        simp only at hb g0
        refine Tri.tree (.a (.b 63 true) (.a (.at [.int .i64 s1, .int .i64 s2, .int .i64 s3]) (.a (.at [.int .i64 s1, .int .i64 s2, .int .i64 s3]) (.br 80 (.a (.at [.int .i64 s1, .int .i64 s2, .int .i64 s3]) .nil) .nil)))) rfl ?_
        refine ⟨by simp, ⟨by simp, rfl, g0⟩, by omega, ⟨by simp, rfl, g0⟩, by omega, fun hb => ⟨⟨by simp, rfl, g0⟩, by omega, 0, by rw [hq]; exact Nat.zero_lt_one, rfl, .inr ⟨rfl, keep_of rfl ?_⟩⟩, fun hb => ⟨by omega, 0, by rw [hq]; exact Nat.zero_lt_one, rfl, .inr ⟨rfl, keep_of rfl ?_⟩⟩⟩
        · simp only [tSp_cons, nSp_cons, hb]; simp
        · simp only [tSp_cons, nSp_cons, hb]; simp
      · refine Tri.keep _ hk ?_
        refine Tri.go [.b 63 false] rfl ⟨by simp, trivial⟩ (outQ ?_)
        exact ⟨rfl, keep_of rfl rfl⟩
  rintro ρ hl' ⟨rfl, hk2⟩
  refine Tri.keep _ hk2 ?_
  clear hk1 hk2 hs ht hg haw hk hv
  have hk := right_known hr
  have h' := hr
  have hfn := of_decide_eq_true hk
  clear hk
  obtain ⟨fn, at_, n, vl, an, og, bs, ws, ra, rn, cd, ob⟩ := a
  simp only at hfn
  rcases hfn with rfl | rfl | rfl | rfl | rfl | rfl | rfl | rfl | rfl | rfl | rfl
  · simp [Ask.right, Ask.same, Ask.only, Ask.rest, known, countsB, kMost, placeB] at hr
    have e : spans { fn := 1, at_ := at_, n := n, val := vl, and_ := an, or_ := og, bits := bs, words := ws, ra := ra, rn := rn, code := cd, obj := ob } = ([(0, at_, at_ + n)], []) := by simp [spans, h', kTab]
    rw [e]
    have et : rTab 1 = (0, true) := by simp [rTab]
    simp only [et]
    refine Tri.treeR (.br 139 (.a (.at [.int .i64 0, .int .i64 at_, .int .i64 (at_ + n)]) .nil) .nil) rfl ?_
    simp [leP, leE, leC, nSp, tSp, spRows]
    all_goals (repeat (first | omega | (intro _) | apply And.intro))
  · simp [Ask.right, Ask.same, Ask.only, Ask.rest, known, countsB, kMost, placeB] at hr
    have e : spans { fn := 2, at_ := at_, n := n, val := vl, and_ := an, or_ := og, bits := bs, words := ws, ra := ra, rn := rn, code := cd, obj := ob } = ([(1, at_, at_ + n)], []) := by simp [spans, h', kTab]
    rw [e]
    have et : rTab 2 = (1, true) := by simp [rTab]
    simp only [et]
    refine Tri.treeR (.br 139 (.a (.at [.int .i64 1, .int .i64 at_, .int .i64 (at_ + n)]) .nil) .nil) rfl ?_
    simp [leP, leE, leC, nSp, tSp, spRows]
    all_goals (repeat (first | omega | (intro _) | apply And.intro))
  · simp [Ask.right, Ask.same, Ask.only, Ask.rest, known, countsB, kMost, placeB] at hr
    have e : spans { fn := 3, at_ := at_, n := n, val := vl, and_ := an, or_ := og, bits := bs, words := ws, ra := ra, rn := rn, code := cd, obj := ob } = ([(2, at_, at_ + n)], []) := by simp [spans, h', kTab]
    rw [e]
    have et : rTab 3 = (2, true) := by simp [rTab]
    simp only [et]
    refine Tri.treeR (.br 139 (.a (.at [.int .i64 2, .int .i64 at_, .int .i64 (at_ + n)]) .nil) .nil) rfl ?_
    simp [leP, leE, leC, nSp, tSp, spRows]
    all_goals (repeat (first | omega | (intro _) | apply And.intro))
  · simp [Ask.right, Ask.same, Ask.only, Ask.rest, known, countsB, kMost, placeB] at hr
    have e : spans { fn := 4, at_ := at_, n := n, val := vl, and_ := an, or_ := og, bits := bs, words := ws, ra := ra, rn := rn, code := cd, obj := ob } = ([(3, at_, at_ + n)], []) := by simp [spans, h', kTab]
    rw [e]
    have et : rTab 4 = (3, true) := by simp [rTab]
    simp only [et]
    refine Tri.treeR (.br 139 (.a (.at [.int .i64 3, .int .i64 at_, .int .i64 (at_ + n)]) .nil) .nil) rfl ?_
    simp [leP, leE, leC, nSp, tSp, spRows]
    all_goals (repeat (first | omega | (intro _) | apply And.intro))
  · simp [Ask.right, Ask.same, Ask.only, Ask.rest, known, countsB, kMost, placeB] at hr
    have e : spans { fn := 5, at_ := at_, n := n, val := vl, and_ := an, or_ := og, bits := bs, words := ws, ra := ra, rn := rn, code := cd, obj := ob } = ([], [(0, at_, at_ + 1)]) := by simp [spans, h', kTab]
    rw [e]
    have et : rTab 5 = (0, true) := by simp [rTab]
    simp only [et]
    refine Tri.treeR (.br 139 (.a (.at [.int .i64 0, .int .i64 at_, .int .i64 (at_ + 1)]) (.br 153 .nil .nil)) .nil) rfl ?_
    simp [leP, leE, leC, nSp, tSp, spRows]
    all_goals (repeat (first | omega | (intro _) | apply And.intro))
  · simp [Ask.right, Ask.same, Ask.only, Ask.rest, known, countsB, kMost, placeB] at hr
    have e : spans { fn := 6, at_ := at_, n := n, val := vl, and_ := an, or_ := og, bits := bs, words := ws, ra := ra, rn := rn, code := cd, obj := ob } = ([], [(2, at_, at_ + 1)]) := by simp [spans, h', kTab]
    rw [e]
    have et : rTab 6 = (2, true) := by simp [rTab]
    simp only [et]
    refine Tri.treeR (.br 139 (.a (.at [.int .i64 2, .int .i64 at_, .int .i64 (at_ + 1)]) (.br 153 .nil .nil)) .nil) rfl ?_
    simp [leP, leE, leC, nSp, tSp, spRows]
    all_goals (repeat (first | omega | (intro _) | apply And.intro))
  · simp [Ask.right, Ask.same, Ask.only, Ask.rest, known, countsB, kMost, placeB] at hr
    have e : spans { fn := 15, at_ := at_, n := n, val := vl, and_ := an, or_ := og, bits := bs, words := ws, ra := ra, rn := rn, code := cd, obj := ob } = ([], [(0, at_, at_ + n)]) := by simp [spans, h', kTab]
    rw [e]
    have et : rTab 15 = (0, true) := by simp [rTab]
    simp only [et]
    refine Tri.treeR (.br 139 (.a (.at [.int .i64 0, .int .i64 at_, .int .i64 (at_ + n)]) (.br 153 .nil .nil)) .nil) rfl ?_
    simp [leP, leE, leC, nSp, tSp, spRows]
    all_goals (repeat (first | omega | (intro _) | apply And.intro))
  · simp [Ask.right, Ask.same, Ask.only, Ask.rest, known, countsB, kMost, placeB] at hr
    have e : spans { fn := 16, at_ := at_, n := n, val := vl, and_ := an, or_ := og, bits := bs, words := ws, ra := ra, rn := rn, code := cd, obj := ob } = ([], [(2, at_, at_ + n)]) := by simp [spans, h', kTab]
    rw [e]
    have et : rTab 16 = (2, true) := by simp [rTab]
    simp only [et]
    refine Tri.treeR (.br 139 (.a (.at [.int .i64 2, .int .i64 at_, .int .i64 (at_ + n)]) (.br 153 .nil .nil)) .nil) rfl ?_
    simp [leP, leE, leC, nSp, tSp, spRows]
    all_goals (repeat (first | omega | (intro _) | apply And.intro))
  · simp [Ask.right, Ask.same, Ask.only, Ask.rest, known, countsB, kMost, placeB] at hr
    have e : spans { fn := 22, at_ := at_, n := n, val := vl, and_ := an, or_ := og, bits := bs, words := ws, ra := ra, rn := rn, code := cd, obj := ob } = ([], [(2, at_, at_ + 1)]) := by simp [spans, h', kTab]
    rw [e]
    have et : rTab 22 = (2, true) := by simp [rTab]
    simp only [et]
    refine Tri.treeR (.br 139 (.a (.at [.int .i64 2, .int .i64 at_, .int .i64 (at_ + 1)]) (.br 153 .nil .nil)) .nil) rfl ?_
    simp [leP, leE, leC, nSp, tSp, spRows]
    all_goals (repeat (first | omega | (intro _) | apply And.intro))
  · simp [Ask.right, Ask.same, Ask.only, Ask.rest, known, countsB, kMost, placeB] at hr
    have e : spans { fn := 23, at_ := at_, n := n, val := vl, and_ := an, or_ := og, bits := bs, words := ws, ra := ra, rn := rn, code := cd, obj := ob } = ([(2, ra, ra + rn)], [(2, at_, at_ + n)]) := by simp [spans, h', kTab]
    rw [e]
    have et : rTab 23 = (2, true) := by simp [rTab]
    simp only [et]
    refine Tri.treeR (.br 139 (.a (.at [.int .i64 2, .int .i64 at_, .int .i64 (at_ + n)]) (.br 153 .nil .nil)) .nil) rfl ?_
    simp [leP, leE, leC, nSp, tSp, spRows]
    all_goals (repeat (first | omega | (intro _) | apply And.intro))
  · simp [Ask.right, Ask.same, Ask.only, Ask.rest, known, countsB, kMost, placeB] at hr
    have e : spans { fn := 43, at_ := at_, n := n, val := vl, and_ := an, or_ := og, bits := bs, words := ws, ra := ra, rn := rn, code := cd, obj := ob } = ([], []) := by simp [spans, h', kTab]
    rw [e]
    have et : rTab 43 = (0, false) := by simp [rTab]
    simp only [et]
    refine Tri.treeR (.nil) rfl ?_
    simp [leP, leE, leC, nSp, tSp, spRows]
    all_goals (repeat (first | omega | (intro _) | apply And.intro))
end Go.Proofs.Ytheaeddojcebjaa
