/-
  Sorting of few numbers (slices.Sort up to twelve).
-/
import Derived.Test.YthddlkhfkncgpaaGreatL1
import Derived.Test.YthddlkhfkncgpaaGreatN1
set_option maxRecDepth 100000
set_option maxHeartbeats 1000000
set_option linter.unusedVariables false
set_option linter.unusedSimpArgs false
namespace Go.Proofs.YthddlkhfkncgpaaGreat
open Go.RowKit

abbrev oN (l : List Int) : Ob := .arr 1 (rI .i64 l)
theorem rN_mod {l : List Int} {i : Nat} {y : Int} : (rI .i64 l).modify i (fun r => putAt r 0 [.int .i64 y]) = rI .i64 (l.set i y) := by
  apply List.ext_getElem?
  intro j
  rw [List.getElem?_modify]
  simp only [rI, List.getElem?_map, List.getElem?_set]
  by_cases h : i = j
  · subst h
    by_cases hl : i < l.length
    · simp [hl, putAt]
    · simp [hl, List.getElem?_eq_none (Nat.le_of_not_lt hl)]
  · simp [h]
def insR (x : Int) : List Int → List Int
  | [] => [x]
  | y :: r => if x < y then y :: insR x r else x :: y :: r
def srtR (l : List Int) : List Int := l.foldl (fun r x => insR x r) []
def srt (l : List Int) : List Int := (srtR l).reverse
theorem insR_len (x : Int) : ∀ l, (insR x l).length = l.length + 1
  | [] => rfl
  | y :: r => by unfold insR; split <;> simp [insR_len x r]
theorem srtR_snoc (l : List Int) (x : Int) : srtR (l ++ [x]) = insR x (srtR l) := by simp [srtR]
theorem srtR_len (l : List Int) : (srtR l).length = l.length := by
  have : ∀ (l r : List Int), (l.foldl (fun r x => insR x r) r).length = r.length + l.length := by
    intro l
    induction l with
    | nil => intro r; simp
    | cons x l ih => intro r; simp [ih, insR_len]; omega
  simpa [srtR] using this l []
theorem srt_len (l : List Int) : (srt l).length = l.length := by simp [srt, srtR_len]
theorem less_ok {x y : Int} : FnOk Tryz.prog 237 [vI .i64 x, vI .i64 y] [] (vB (decide (x < y))) [] := by
  refine FnOk.tree t237 (.f [] (isNaN_ok (a := x)) .nil) rfl rfl rfl rfl ?_
  simp [leVs, leP, leE, leC]
theorem len64_ok {n : Nat} (h : n ≤ 12) : ∃ r, b64 r ∧ FnOk Tryz.prog 241 [vI .u64 n] [] (vI .i64 r) [] := by
  have hn : n = 0 ∨ n = 1 ∨ n = 2 ∨ n = 3 ∨ n = 4 ∨ n = 5 ∨ n = 6 ∨ n = 7 ∨ n = 8 ∨ n = 9 ∨ n = 10 ∨ n = 11 ∨ n = 12 := by omega
  rcases hn with rfl | rfl | rfl | rfl | rfl | rfl | rfl | rfl | rfl | rfl | rfl | rfl | rfl
  · exact ⟨0, by simp [b64], FnOk.tree t241 .nil rfl rfl rfl rfl (by simp [leP, leE, leC]; decide +kernel)⟩
  · exact ⟨1, by simp [b64], FnOk.tree t241 .nil rfl rfl rfl rfl (by simp [leP, leE, leC]; decide +kernel)⟩
  · exact ⟨2, by simp [b64], FnOk.tree t241 .nil rfl rfl rfl rfl (by simp [leP, leE, leC]; decide +kernel)⟩
  · exact ⟨2, by simp [b64], FnOk.tree t241 .nil rfl rfl rfl rfl (by simp [leP, leE, leC]; decide +kernel)⟩
  · exact ⟨3, by simp [b64], FnOk.tree t241 .nil rfl rfl rfl rfl (by simp [leP, leE, leC]; decide +kernel)⟩
  · exact ⟨3, by simp [b64], FnOk.tree t241 .nil rfl rfl rfl rfl (by simp [leP, leE, leC]; decide +kernel)⟩
  · exact ⟨3, by simp [b64], FnOk.tree t241 .nil rfl rfl rfl rfl (by simp [leP, leE, leC]; decide +kernel)⟩
  · exact ⟨3, by simp [b64], FnOk.tree t241 .nil rfl rfl rfl rfl (by simp [leP, leE, leC]; decide +kernel)⟩
  all_goals exact ⟨4, by simp [b64], FnOk.tree t241 .nil rfl rfl rfl rfl (by simp [leP, leE, leC]; decide +kernel)⟩
theorem bitsLen_ok {n : Nat} (h : n ≤ 12) : ∃ r, b64 r ∧ FnOk Tryz.prog 184 [vI .u64 n] [] (vI .i64 r) [] := by
  obtain ⟨r, hr, h64⟩ := len64_ok h
  refine ⟨r, hr, FnOk.tree t184 (.f [] h64 .nil) rfl rfl rfl rfl ?_⟩
  simp [leVs, leP, leE, leC]
/-- One number laid among those that are sorted. -/
theorem insert_ok {l : List Int} (hl : l.length ≤ 1000000) : FnOk Tryz.prog 231 [vC (.sl 0 0 l.length), vI .i64 0, vI .i64 l.length] [oN l] (.tup []) [oN (srt l)] := by
  refine FnOk.start t231 rfl rfl rfl ?_
  refine Tri.seq (Tri.go [] rfl ⟨by omega, trivial⟩ ?_)
  refine Tri.block ?_
  have hs0 : l = (srtR (l.take 1)).reverse ++ l.drop 1 := by
    cases l with
    | nil => rfl
    | cons x l => simp [srtR, insR]
  refine Tri.lp (fun q ρ hl => ∃ i, q = l.length - i ∧ 1 ≤ i ∧ hl = [oN ((srtR (l.take i)).reverse ++ l.drop i)] ∧ keepE ρ [0, 1, 2, 6] = some [(0, vC (.sl 0 0 l.length)), (1, vI .i64 0), (2, vI .i64 l.length), (6, vI .i64 i)]) (l.length - 1) ⟨1, rfl, by omega, by rw [← hs0], keep_of rfl rfl⟩ ?_
  rintro q ρ hl' ⟨i, rfl, hi, rfl, hkk⟩
  refine Tri.keep _ hkk ?_
  by_cases h : i < l.length
  · refine Tri.seq (Tri.go [.b 12 true] rfl ⟨decide_eq_true (by omega), trivial⟩ ?_)
    have hdr : l.drop i = l[i] :: l.drop (i + 1) := List.drop_eq_getElem_cons h
    have hts : l.take (i + 1) = l.take i ++ [l[i]] := (List.take_append_getElem h).symm
    have hrl : (srtR (l.take i)).length = i := by rw [srtR_len]; simp; omega
    have hsn : srtR (l.take (i + 1)) = insR l[i] (srtR (l.take i)) := by rw [hts, srtR_snoc]
    rw [hdr]
    generalize l[i] = x at *
    generalize srtR (l.take i) = R at *
    generalize hrest : l.drop (i + 1) = rest at *
    have hlen : l.length = i + 1 + rest.length := by rw [← hrest]; simp; omega
    refine Tri.mid (fun ρ hl => hl = [oN ((insR x R).reverse ++ rest)] ∧ keepE ρ [0, 1, 2, 6] = some [(0, vC (.sl 0 0 l.length)), (1, vI .i64 0), (2, vI .i64 l.length), (6, vI .i64 i)]) ?_ ?_
    · refine Tri.block (Tri.seq (Tri.go [] rfl trivial ?_))
      refine Tri.block ?_
      refine Tri.lp (fun q ρ hl => ∃ S P, q = P.length ∧ R.length = S.length + P.length ∧ insR x R = S ++ insR x P ∧ hl = [oN (P.reverse ++ x :: (S.reverse ++ rest))] ∧ keepE ρ [0, 1, 2, 6, 7] = some [(0, vC (.sl 0 0 l.length)), (1, vI .i64 0), (2, vI .i64 l.length), (6, vI .i64 i), (7, vI .i64 P.length)]) R.length ⟨[], R, rfl, by simp, by simp, by simp, keep_of rfl (by simp [hrl])⟩ ?_
      rintro q ρ hl' ⟨S, P, rfl, hSP, hins, rfl, hkk⟩
      refine Tri.keep _ hkk ?_
      cases P with
      | nil =>
        refine Tri.go [.b 19 false] rfl ⟨by simp, trivial⟩ (outQ ⟨?_, keep_of rfl (by simp)⟩)
        rw [hins]
        simp [insR]
      | cons y P =>
        have hgx : (rI .i64 ((y :: P).reverse ++ x :: (S.reverse ++ rest)))[P.length + 1]? = some [.int .i64 x] := by
          simp [rI, List.getElem?_append_right]
        have hgy : (rI .i64 ((y :: P).reverse ++ x :: (S.reverse ++ rest)))[P.length]? = some [.int .i64 y] := by
          simp [rI, List.getElem?_append_right]
        have hj : (y :: P).length = P.length + 1 := rfl
        have h1 : 0 + ((y :: P).length : Int).toNat = P.length + 1 := by omega
        have h2 : 0 + (((y :: P).length : Int) - 1).toNat = P.length := by omega
        have hpl : P.length + 1 < l.length := by omega
        have hll : (rI .i64 ((y :: P).reverse ++ x :: (S.reverse ++ rest))).length = l.length := by simp; omega
        have hset : (((y :: P).reverse ++ x :: (S.reverse ++ rest)).set (P.length + 1) y).set P.length x = P.reverse ++ x :: ((S ++ [y]).reverse ++ rest) := by
          simp [List.set_append]
        have hle := less_ok (x := x) (y := y)
        by_cases hxy : x < y
        · refine Tri.seq (Tri.tree (.a (.b 19 true) (.a (.at [.int .i64 x]) (.a (.at [.int .i64 y]) (.f [] hle (.a (.b 30 true) .nil))))) rfl ⟨decide_eq_true (by omega), ⟨by omega, by omega, rfl⟩, by rw [h1]; exact hgx, by omega, ⟨by omega, by omega, rfl⟩, by rw [h2]; exact hgy, trivial, by simp [leVs, leP, leE, leC], by simpa using hxy, ?_⟩)
          refine Tri.seq (Tri.block (Tri.tree (.a (.at [.int .i64 y]) (.a (.at [.int .i64 x]) .nil)) rfl ?_))
          refine ⟨by omega, by omega, ⟨by omega, by omega, rfl⟩, by rw [h2]; exact hgy, ⟨by omega, by omega, rfl⟩, by rw [h1]; exact hgx, ⟨by omega, by omega, rfl⟩, ⟨rfl, by rw [hll]; omega, by omega⟩, ⟨by omega, by omega, rfl⟩, ⟨rfl, by rw [List.length_modify, hll]; omega, by omega⟩, ?_⟩
          rw [h1, h2, rN_mod, rN_mod, hset]
          refine Tri.go [] rfl ⟨by omega, trivial⟩ (again P.length (by omega) ⟨S ++ [y], P, rfl, by simp; omega, ?_, rfl, keep_of rfl (by simp)⟩)
          rw [hins]
          show S ++ insR x (y :: P) = _
          rw [insR, if_pos hxy]
          simp
        · refine Tri.seq (Tri.tree (.a (.b 19 true) (.a (.at [.int .i64 x]) (.a (.at [.int .i64 y]) (.f [] hle (.a (.b 30 false) .nil))))) rfl ⟨decide_eq_true (by omega), ⟨by omega, by omega, rfl⟩, by rw [h1]; exact hgx, by omega, ⟨by omega, by omega, rfl⟩, by rw [h2]; exact hgy, trivial, by simp [leVs, leP, leE, leC], by simpa using hxy, ?_⟩)
          refine ⟨?_, keep_of rfl (by simp)⟩
          rw [hins]
          unfold insR
          rw [if_neg hxy]
          simp
    · rintro ρ hl' ⟨rfl, hkk⟩
      refine Tri.keep _ hkk ?_
      refine Tri.go [] rfl ⟨by omega, trivial⟩ (again (l.length - (i + 1)) (by omega) ⟨i + 1, rfl, by omega, by rw [hsn, hrest], keep_of rfl (by simp)⟩)
  · refine Tri.go [.b 12 false] rfl ⟨decide_eq_false (by omega), trivial⟩ (outQ ?_)
    have e1 : l.take i = l := List.take_of_length_le (by omega)
    have e2 : l.drop i = [] := List.drop_eq_nil_of_le (by omega)
    rw [e1, e2, List.append_nil]
    exact RetQ.ends rfl (RetQ.le [0] [] rfl trivial (.refl _) (LeOs.of rfl))
theorem pdq_ok {l : List Int} (hl : l.length ≤ 12) {k : Int} : FnOk Tryz.prog 183 [vC (.sl 0 0 l.length), vI .i64 0, vI .i64 l.length, vI .i64 k] [oN l] (.tup []) [oN (srt l)] := by
  have hi := insert_ok (l := l) (by omega)
  refine FnOk.start t183 rfl rfl rfl ?_
  refine Tri.seq (Tri.go [] rfl trivial ?_)
  refine Tri.seq (Tri.go [] rfl trivial ?_)
  refine Tri.block ?_
  refine Tri.lp (fun q ρ hl => hl = [oN l] ∧ keepE ρ [0, 1, 2] = some [(0, vC (.sl 0 0 l.length)), (1, vI .i64 0), (2, vI .i64 l.length)]) 0 ⟨rfl, keep_of rfl rfl⟩ ?_
  rintro q ρ hl' ⟨rfl, hkk⟩
  refine Tri.keep _ hkk ?_
  refine Tri.tree (.a (.b 23 true) (.o [0] [] hi .nil)) rfl ⟨by omega, by simp; omega, trivial, ⟨leP_refl _, leP_refl _, leP_refl _, trivial⟩, rfl, RetQ.le [0] [] rfl trivial (.refl _) (LeOs.of rfl)⟩
theorem sort_ok {l : List Int} (hl : l.length ≤ 12) : FnOk Tryz.prog 137 [vC (.sl 0 0 l.length)] [oN l] (.tup []) [oN (srt l)] := by
  obtain ⟨r, hr, hb⟩ := bitsLen_ok hl
  have hp := pdq_ok hl (k := r)
  refine FnOk.tree t137 (.f [] hb (.o [0] [] hp (.a (.call [0] [] .u []) .nil))) rfl rfl rfl rfl ?_
  refine ⟨trivial, trivial, ?_, trivial, ⟨leP_refl _, leP_refl _, leP_refl _, leP_refl _, trivial⟩, rfl, trivial, LeOs.of rfl, trivial⟩
  have e : IntKind.u64.wrap (l.length : Int) = l.length := by
    have : IntKind.u64.wrap (l.length : Int) = (l.length : Int) % 18446744073709551616 := by simp [IntKind.wrap, IntKind.signed, IntKind.bits]
    rw [this]
    omega
  rw [e]
  exact ⟨leP_refl _, trivial⟩
end Go.Proofs.YthddlkhfkncgpaaGreat
