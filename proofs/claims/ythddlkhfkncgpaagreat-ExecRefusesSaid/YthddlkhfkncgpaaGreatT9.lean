/-
  Addresses in rows: Right, ahead, Add.
-/
import Derived.Test.YthddlkhfkncgpaaGreatT8
set_option maxRecDepth 100000
set_option maxHeartbeats 1000000
set_option linter.unusedVariables false
set_option linter.unusedSimpArgs false
namespace Go.Proofs.YthddlkhfkncgpaaGreat
open Go.RowKit

def spnR (s : Spn) : Bool := decide (0 ≤ s.1) && decide (s.1 < 4) && decide (0 ≤ s.2.1) && decide (s.2.2 ≤ 65536) && decide (s.2.1 < s.2.2)
theorem sRight_ok {s : Spn} : FnOk Tryz.prog 124 [vS3 s] [] (vB (spnR s)) [] := by
  refine FnOk.tree t124 (.br 6 (.br 11 (.br 16 (.br 21 .nil .nil) .nil) .nil) .nil) rfl rfl rfl rfl ?_
  simp [leP, leE, leC, spnR]
  omega
def aheadS (a b : Spn) : Bool := decide (a.1 < b.1) || (a.1 == b.1 && decide (a.2.2 < b.2.1))
theorem ahead_ok {a b : Spn} : FnOk Tryz.prog 282 [vS3 a, vS3 b] [] (vB (aheadS a b)) [] := by
  by_cases h1 : a.1 < b.1
  · exact FnOk.tree t282 (.a (.b 10 true) .nil) rfl rfl rfl rfl (by simp [leP, leE, leC, aheadS, h1])
  by_cases h2 : a.1 = b.1
  · exact FnOk.tree t282 (.a (.b 10 false) (.a (.b 16 true) .nil)) rfl rfl rfl rfl (by simp [leP, leE, leC, aheadS, h1, h2])
  · exact FnOk.tree t282 (.a (.b 10 false) (.a (.b 16 false) .nil)) rfl rfl rfl rfl (by simp [leP, leE, leC, aheadS, h1, h2])
def mnI (a b : Int) : Int := if b < a then b else a
def mxI (a b : Int) : Int := if a < b then b else a
abbrev AddSt := List Spn × Nat × Spn
def stepS (q : AddSt) (x : Spn) : AddSt :=
  if aheadS x q.2.2 then (q.1 ++ [x], q.1.length + 1, q.2.2) else if aheadS q.2.2 x then (q.1 ++ [x], q.2.1, q.2.2) else (q.1, q.2.1, (q.2.2.1, mnI q.2.2.2.1 x.2.1, mxI q.2.2.2.2 x.2.2))
def foldS (R : List Spn) (s : Spn) : AddSt := R.foldl stepS ([], 0, s)
def addS (R : List Spn) (s : Spn) : List Spn := let q := foldS R s; q.1.take q.2.1 ++ q.2.2 :: q.1.drop q.2.1
theorem foldS_succ {R : List Spn} {s : Spn} {i : Nat} (h : i < R.length) : foldS (R.take (i + 1)) s = stepS (foldS (R.take i) s) R[i] := by
  unfold foldS
  rw [← List.take_append_getElem h, List.foldl_append]
  rfl
theorem stepS_len (q : AddSt) (x : Spn) (h : q.2.1 ≤ q.1.length) : (stepS q x).2.1 ≤ (stepS q x).1.length ∧ (stepS q x).1.length ≤ q.1.length + 1 := by
  unfold stepS
  split
  · simp
  · split
    · simp; omega
    · simp; omega
theorem foldS_len (s : Spn) : ∀ (R : List Spn) (i : Nat), i ≤ R.length → (foldS (R.take i) s).2.1 ≤ (foldS (R.take i) s).1.length ∧ (foldS (R.take i) s).1.length ≤ i
  | R, 0, _ => by simp [foldS]
  | R, i + 1, h => by
    obtain ⟨h1, h2⟩ := foldS_len s R i (by omega)
    rw [foldS_succ (by omega)]
    have := stepS_len (foldS (R.take i) s) R[i] h1
    omega
theorem addS_len (R : List Spn) (s : Spn) : (addS R s).length ≤ R.length + 1 := by
  have := foldS_len s R R.length (by omega)
  rw [List.take_length] at this
  unfold addS
  simp
  omega
theorem rwS_three (l : List Spn) : ∀ r ∈ rwS l, r.length = 3 := fun r hr => by
  obtain ⟨o, _, rfl⟩ := List.mem_map.1 hr
  rfl
theorem ins_rows2 {X : List (List D)} {a m : Nat} {v : List D} (hm : X.length = m) (ha : a ≤ m) (h3 : ∀ r ∈ X, r.length = 3) (hv : v.length = 3) :
    (List.take (a + 1) (X ++ [v]) ++ (List.take (min (m + 1 - a) (m - a)) (List.drop a (X ++ [v])) ++ List.drop (a + 1 + min (m + 1 - a) (m - a)) (X ++ [v]))).modify a (fun r => putAt r 0 v) = List.take a X ++ v :: List.drop a X := by
  have hlt : a < (X ++ [v]).length := by simp; omega
  have h1 : List.take (a + 1) (X ++ [v]) = List.take a X ++ [(X ++ [v])[a]] := by
    rw [← List.take_append_getElem hlt, List.take_append_of_le_length (by omega)]
  have h2 : List.take (min (m + 1 - a) (m - a)) (List.drop a (X ++ [v])) = List.drop a X := by
    rw [show min (m + 1 - a) (m - a) = m - a by omega, List.drop_append_of_le_length (by omega), List.take_append_of_le_length (by rw [List.length_drop]; omega), List.take_of_length_le (by rw [List.length_drop]; omega)]
  have h4 : List.drop (a + 1 + min (m + 1 - a) (m - a)) (X ++ [v]) = [] := List.drop_eq_nil_of_le (by simp; omega)
  rw [h1, h2, h4, List.append_nil, List.append_assoc]
  have hz : (X ++ [v])[a].length = 3 := by
    have := List.getElem_mem hlt
    rcases List.mem_append.1 this with h | h
    · exact h3 _ h
    · simp at h; rw [h]; exact hv
  generalize (X ++ [v])[a] = z at hz
  have := mod_mid (fun r => putAt r 0 v) z (List.drop a X) (List.take a X)
  rw [List.length_take, show min a X.length = a by omega] at this
  rw [show ([z] : List (List D)) ++ List.drop a X = z :: List.drop a X from rfl, this]
  have hp : putAt z 0 v = v := by
    match z, v, hz, hv with
    | [a, b, c], [d, e, f], _, _ => rfl
  rw [hp]
theorem add_ok {R : List Spn} (hl : R.length ≤ 100000000) {s : Spn} : FnOk Tryz.prog 261 [vSp R, vS3 s] [] (vSp (addS R s)) [] := by
  refine FnOk.start t261 rfl rfl rfl ?_
  refine Tri.seq (Tri.go [] rfl trivial ?_)
  refine Tri.seq (Tri.go [] rfl ⟨by omega, by omega, trivial⟩ ?_)
  refine Tri.seq (Tri.go [] rfl trivial ?_)
  refine Tri.mid (fun ρ hl => hl = [.box [.t (.int .i64 (foldS R s).2.2.1), .t (.int .i64 (foldS R s).2.2.2.1), .t (.int .i64 (foldS R s).2.2.2.2)], .arr 3 (rwS (foldS R s).1)] ∧
    keepE ρ [3, 5, 6] = some [(3, vC (.ptr 0 0)), (5, vC (.sl 1 0 (foldS R s).1.length)), (6, vI .i64 (foldS R s).2.1)]) ?_ ?_
  · refine Tri.seq (Tri.go [] rfl trivial ?_)
    refine Tri.block ?_
    refine Tri.lp (fun z ρ hl => ∃ i, z = R.length - i ∧ i ≤ R.length ∧ hl = [.box [.t (.int .i64 (foldS (R.take i) s).2.2.1), .t (.int .i64 (foldS (R.take i) s).2.2.2.1), .t (.int .i64 (foldS (R.take i) s).2.2.2.2)], .arr 3 (rwS (foldS (R.take i) s).1)] ∧
      keepE ρ [3, 5, 6, 13, 14, 15] = some [(3, vC (.ptr 0 0)), (5, vC (.sl 1 0 (foldS (R.take i) s).1.length)), (6, vI .i64 (foldS (R.take i) s).2.1), (13, vSp R), (14, vI .i64 R.length), (15, vI .i64 i)]) R.length ⟨0, by omega, by omega, rfl, keep_of rfl rfl⟩ ?_
    rintro z ρ hl' ⟨i, rfl, hi, rfl, hkk⟩
    refine Tri.keep _ hkk ?_
    by_cases h : i < R.length
    · have hg := rwS_get h
      obtain ⟨h1, h2⟩ := foldS_len s R i (by omega)
      have hsx := foldS_succ (s := s) h
      generalize R[i] = x at *
      generalize foldS (R.take i) s = q at *
      obtain ⟨out, at', sp⟩ := q
      simp only at h1 h2
      have ha1 := ahead_ok (a := x) (b := sp)
      have ha2 := ahead_ok (a := sp) (b := x)
      have hrow : (List.replicate 1 [D.int .i64 0, D.int .i64 0, D.int .i64 0]).set 0 [D.int .i64 x.1, D.int .i64 x.2.1, D.int .i64 x.2.2] = rwS [x] := rfl
      have happ : rwS out ++ List.take 1 ((List.replicate 1 [D.int .i64 0, D.int .i64 0, D.int .i64 0]).set 0 [D.int .i64 x.1, D.int .i64 x.2.1, D.int .i64 x.2.2]) = rwS (out ++ [x]) := by rw [hrow, ← rwS_app]; rfl
      refine Tri.seq (Tri.go [] rfl trivial (Tri.seq (Tri.go [.b 16 true] rfl ⟨decide_eq_true (by omega), trivial⟩ ?_)))
      refine Tri.seq (Tri.block (Tri.seq (Tri.tree (.a (.at [.int .i64 x.1, .int .i64 x.2.1, .int .i64 x.2.2]) .nil) rfl ⟨⟨by omega, rfl, hg⟩, by simp, ?_⟩)))
      cases hb1 : aheadS x sp with
      | true =>
        rw [hb1] at ha1
        have hst : foldS (R.take (i + 1)) s = (out ++ [x], out.length + 1, sp) := by rw [hsx]; simp [stepS, hb1]
        refine Tri.block (Tri.tree (.f [] ha1 .nil) rfl ⟨trivial, by simp [leVs, leP, leE, leL, leC], ⟨⟨rfl, by simp⟩, trivial⟩, ⟨.inr rfl, rfl, by simp, by simp, by show (out.length + 1) * 24 ≤ _; omega, by show out.length + 1 ≤ _; omega⟩, ?_⟩)
        simp only [happ]
        refine Tri.let [0, 3] [] [3, 5, 6, 13, 14, 15] rfl trivial ?_
        refine Tri.go [] rfl ⟨by omega, trivial⟩ (again (R.length - (i + 1)) (by omega) ⟨i + 1, rfl, by omega, by rw [hst], keep_of rfl (by simp [hst])⟩)
      | false =>
        rw [hb1] at ha1
        cases hb2 : aheadS sp x with
        | true =>
          rw [hb2] at ha2
          have hst : foldS (R.take (i + 1)) s = (out ++ [x], at', sp) := by rw [hsx]; simp [stepS, hb1, hb2]
          refine Tri.block (Tri.tree (.f [] ha1 (.f [] ha2 .nil)) rfl ⟨trivial, by simp [leVs, leP, leE, leL, leC], trivial, by simp [leVs, leP, leE, leL, leC], ⟨⟨rfl, by simp⟩, trivial⟩, ⟨.inr rfl, rfl, by simp, by simp, by show (out.length + 1) * 24 ≤ _; omega, by show out.length + 1 ≤ _; omega⟩, ?_⟩)
          simp only [happ]
          refine Tri.let [0, 3] [] [3, 5, 6, 13, 14, 15] rfl trivial ?_
          refine Tri.go [] rfl ⟨by omega, trivial⟩ (again (R.length - (i + 1)) (by omega) ⟨i + 1, rfl, by omega, by rw [hst], keep_of rfl (by simp [hst])⟩)
        | false =>
          rw [hb2] at ha2
          have hst : foldS (R.take (i + 1)) s = (out, at', (sp.1, mnI sp.2.1 x.2.1, mxI sp.2.2 x.2.2)) := by rw [hsx]; simp [stepS, hb1, hb2]
          refine Tri.block (Tri.tree (.f [] ha1 (.f [] ha2 .nil)) rfl ⟨trivial, by simp [leVs, leP, leE, leL, leC], trivial, by simp [leVs, leP, leE, leL, leC], trivial, trivial, ?_⟩)
          refine Tri.let [0, 1] [] [3, 5, 6, 13, 14, 15] rfl trivial ?_
          refine Tri.go [] rfl ⟨by omega, trivial⟩ (again (R.length - (i + 1)) (by omega) ⟨i + 1, rfl, by omega, by rw [hst]; rfl, keep_of rfl (by simp [hst])⟩)
    · have : i = R.length := by omega
      subst this
      rw [List.take_length]
      exact Tri.seq (Tri.go [] rfl trivial (Tri.seq (Tri.go [.b 16 false] rfl ⟨decide_eq_false (by omega), trivial⟩ (And.intro rfl (keep_of rfl rfl)))))
  rintro ρ hl' ⟨rfl, hkk⟩
  refine Tri.keep _ hkk ?_
  have hfl := foldS_len s R R.length (by omega)
  rw [List.take_length] at hfl
  unfold addS
  generalize foldS R s = q at *
  obtain ⟨out, at', sp⟩ := q
  simp only at hfl ⊢
  obtain ⟨h1, h2⟩ := hfl
  refine Tri.treeR (.a (.call [] [2] .u []) .nil) rfl ?_
  have e := ins_rows2 (X := rwS out) (a := at') (m := out.length) (v := [.int .i64 sp.1, .int .i64 sp.2.1, .int .i64 sp.2.2]) (by simp) h1 (rwS_three out) rfl
  have e2 : List.take at' (rwS out) ++ [.int .i64 sp.1, .int .i64 sp.2.1, .int .i64 sp.2.2] :: List.drop at' (rwS out) = rwS (List.take at' out ++ sp :: List.drop at' out) := by simp [rwS, List.map_take, List.map_drop]
  rw [e2] at e
  simp [leP, leE, leC]
  exact ⟨⟨by omega, by omega⟩, ⟨by omega, by omega⟩, ⟨by omega, by omega⟩, by omega, by omega, by omega, by omega, by omega, .nil, by omega, .inl e⟩
end Go.Proofs.YthddlkhfkncgpaaGreat
