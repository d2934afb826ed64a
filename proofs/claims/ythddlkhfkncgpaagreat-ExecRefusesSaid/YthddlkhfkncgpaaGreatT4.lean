/-
  What may be written; chains of versions.
-/
import Derived.Test.YthddlkhfkncgpaaGreatT3
set_option maxRecDepth 100000
set_option maxHeartbeats 1000000
set_option linter.unusedVariables false
set_option linter.unusedSimpArgs false
namespace Go.Proofs.YthddlkhfkncgpaaGreat
open Go.RowKit

/-- Where the first cell is of which p holds. -/
def idxC (p : Cel → Bool) : Nat → List Cel → Int
  | _, [] => -1
  | i, o :: l => if p o then (i : Int) else idxC p (i + 1) l
theorem idxC_cons (p : Cel → Bool) (i : Nat) (o : Cel) (l : List Cel) : idxC p i (o :: l) = if p o then (i : Int) else idxC p (i + 1) l := rfl
theorem idxC_any (p : Cel → Bool) : ∀ (l : List Cel) (i : Nat), decide (0 ≤ idxC p i l) = l.any p
  | [], i => rfl
  | o :: l, i => by
    rw [idxC_cons, List.any_cons]
    cases h : p o with
    | true => simp
    | false => simpa using idxC_any p l (i + 1)
theorem indexC_ok {f : FuncId} {p : Cel → Bool} (hp : ∀ o, FnOk Tryz.prog f [vC3 o] [] (vB (p o)) []) {l : List Cel} (hl : l.length ≤ 1000000000000) :
    FnOk Tryz.prog 289 [vCl l, vC (.fn f [])] [] (vI .i64 (idxC p 0 l)) [] := by
  refine FnOk.start t289 rfl rfl rfl ?_
  refine Tri.seq (Tri.go [] rfl trivial ?_)
  refine Tri.mid (fun ρ hl => hl = [] ∧ idxC p 0 l = -1 ∧ keepE ρ [0] = some [(0, vCl l)]) ?_ ?_
  · refine Tri.seq (Tri.go [] rfl trivial ?_)
    refine Tri.block ?_
    refine Tri.lp (fun q ρ hl => ∃ i, q = l.length - i ∧ i ≤ l.length ∧ idxC p 0 l = idxC p i (l.drop i) ∧ hl = [] ∧ keepE ρ [0, 1, 7, 8] = some [(0, vCl l), (1, vC (.fn f [])), (7, vI .i64 l.length), (8, vI .i64 i)]) l.length ⟨0, by omega, by omega, rfl, rfl, keep_of rfl rfl⟩ ?_
    rintro q ρ hl' ⟨i, rfl, hi, he, rfl, hkk⟩
    refine Tri.keep _ hkk ?_
    by_cases h : i < l.length
    · have hg := rwC_get h
      rw [List.drop_eq_getElem_cons h] at he
      generalize l[i] = o at *
      rw [idxC_cons] at he
      have hpo := hp o
      cases hpb : p o with
      | true =>
        rw [hpb] at he hpo
        refine Tri.seq (Tri.go [] rfl trivial (Tri.seq (Tri.go [.b 9 true] rfl ⟨decide_eq_true (by omega), trivial⟩ ?_)))
        refine Tri.tree (.a (.at [.int .i64 o.1, .int .i64 o.2.1, .int .u16 o.2.2]) (.a (.call [] [] (vB true) []) .nil)) rfl ⟨⟨by omega, rfl, hg⟩, by simp, trivial, hpo, ?_⟩
        rw [he, if_pos rfl]
        exact RetQ.le [] [] rfl trivial (.refl _) (.refl _)
      | false =>
        rw [hpb] at he hpo
        refine Tri.seq (Tri.go [] rfl trivial (Tri.seq (Tri.go [.b 9 true] rfl ⟨decide_eq_true (by omega), trivial⟩ ?_)))
        refine Tri.seq (Tri.block (Tri.tree (.a (.at [.int .i64 o.1, .int .i64 o.2.1, .int .u16 o.2.2]) (.a (.call [] [] (vB false) []) .nil)) rfl ⟨⟨by omega, rfl, hg⟩, by simp, trivial, hpo, ?_⟩))
        refine Tri.go [] rfl ⟨by omega, trivial⟩ (again (l.length - (i + 1)) (by omega) ⟨i + 1, rfl, by omega, by simpa using he, rfl, keep_of rfl (by simp)⟩)
    · have : i = l.length := by omega
      subst this
      rw [List.drop_length] at he
      exact Tri.seq (Tri.go [] rfl trivial (Tri.seq (Tri.go [.b 9 false] rfl ⟨decide_eq_false (by omega), trivial⟩ (And.intro rfl (And.intro he (keep_of rfl rfl))))))
  rintro ρ hl' ⟨rfl, he, hkk⟩
  refine Tri.keep _ hkk ?_
  rw [he]
  exact Tri.treeR .nil rfl (by simp [leP, leE, leC])
theorem hasC_ok {f : FuncId} {p : Cel → Bool} (hp : ∀ o, FnOk Tryz.prog f [vC3 o] [] (vB (p o)) []) {l : List Cel} (hl : l.length ≤ 1000000000000) :
    FnOk Tryz.prog 266 [vCl l, vC (.fn f [])] [] (vB (l.any p)) [] := by
  have hi := indexC_ok hp hl
  have ha := idxC_any p l 0
  refine FnOk.tree t266 (.f [] hi .nil) rfl rfl rfl rfl ?_
  simp [leVs, leP, leE, leL, leC, ← ha]
/-- Each cell stands ahead of the next one. -/
def rightL : List Cel → Bool
  | [] => true
  | c :: l => (match l with | [] => true | d :: _ => lessK c.1 c.2.1 d.1 d.2.1) && rightL l
theorem rightL_two (c d : Cel) (l : List Cel) : rightL (c :: d :: l) = (lessK c.1 c.2.1 d.1 d.2.1 && rightL (d :: l)) := rfl
theorem bRight_ok {l : List Cel} (hl : l.length ≤ 1000000000000) : FnOk Tryz.prog 267 [vCl l] [] (vB (rightL l)) [] := by
  refine FnOk.start t267 rfl rfl rfl ?_
  refine Tri.seq (Tri.go [] rfl trivial ?_)
  refine Tri.mid (fun ρ hl => hl = [] ∧ rightL l = true ∧ keepE ρ [0] = some [(0, vCl l)]) ?_ ?_
  · refine Tri.seq (Tri.go [] rfl trivial ?_)
    refine Tri.block ?_
    refine Tri.lp (fun q ρ hl => ∃ i, q = l.length - i ∧ 1 ≤ i ∧ rightL l = rightL (l.drop (i - 1)) ∧ hl = [] ∧ (i ≤ l.length ∨ i = 1) ∧ keepE ρ [0, 3] = some [(0, vCl l), (3, vI .i64 i)]) (l.length - 1) ⟨1, by omega, by omega, rfl, rfl, by omega, keep_of rfl rfl⟩ ?_
    rintro q ρ hl' ⟨i, rfl, hi, he, rfl, hi2, hkk⟩
    refine Tri.keep _ hkk ?_
    by_cases h : i < l.length
    · have h0 : i - 1 < l.length := by omega
      have hg0 := rwC_get h0
      have hg := rwC_get h
      have e1 : i - 1 + 1 = i := by omega
      rw [List.drop_eq_getElem_cons h0] at he
      simp only [e1] at he
      have hd := List.drop_eq_getElem_cons h
      rw [hd] at he
      rw [rightL_two, ← hd] at he
      have hlt := ordK_lt (t := l[i-1].1) (a := l[i-1].2.1) (u := l[i].1) (b := l[i].2.1)
      have hord := order_ok (t := l[i-1].1) (a := l[i-1].2.1) (u := l[i].1) (b := l[i].2.1)
      generalize l[i-1] = c at *
      generalize l[i] = d at *
      have hidx : ((i : Int) - 1).toNat = i - 1 := by omega
      refine Tri.seq (Tri.go [.b 7 true] rfl ⟨decide_eq_true (by omega), trivial⟩ ?_)
      cases hle : lessK c.1 c.2.1 d.1 d.2.1 with
      | true =>
        rw [hle] at he hlt
        refine Tri.seq (Tri.block (Tri.tree (.a (.at [.int .i64 c.1, .int .i64 c.2.1, .int .u16 c.2.2]) (.a (.at [.int .i64 d.1, .int .i64 d.2.1, .int .u16 d.2.2]) (.f [] hord (.a (.b 22 false) .nil)))) rfl ?_))
        refine ⟨by omega, ⟨by omega, rfl, by rw [hidx]; exact hg0⟩, by simp, ⟨by omega, rfl, hg⟩, by simp, trivial, by simp [leVs, leP, leE, leL, leC], ?_, ?_⟩
        · have := of_decide_eq_true hlt
          exact decide_eq_false (by omega)
        · exact Tri.go [] rfl ⟨by omega, trivial⟩ (again (l.length - (i + 1)) (by omega) ⟨i + 1, rfl, by omega, by simpa using he, rfl, by omega, keep_of rfl (by simp)⟩)
      | false =>
        rw [hle] at he hlt
        refine Tri.seq (Tri.block (Tri.tree (.a (.at [.int .i64 c.1, .int .i64 c.2.1, .int .u16 c.2.2]) (.a (.at [.int .i64 d.1, .int .i64 d.2.1, .int .u16 d.2.2]) (.f [] hord (.a (.b 22 true) .nil)))) rfl ?_))
        refine ⟨by omega, ⟨by omega, rfl, by rw [hidx]; exact hg0⟩, by simp, ⟨by omega, rfl, hg⟩, by simp, trivial, by simp [leVs, leP, leE, leL, leC], ?_, ?_⟩
        · have := of_decide_eq_false hlt
          exact decide_eq_true (by omega)
        · rw [he]
          exact RetQ.le [] [] rfl trivial (.refl _) (.refl _)
    · have hlen : (l.drop (i - 1)).length ≤ 1 := by simp; omega
      have hr : rightL (l.drop (i - 1)) = true := by
        match l.drop (i - 1), hlen with
        | [], _ => rfl
        | [c], _ => rfl
      rw [hr] at he
      exact Tri.seq (Tri.go [.b 7 false] rfl ⟨decide_eq_false (by omega), trivial⟩ (And.intro rfl (And.intro he (keep_of rfl rfl))))
  rintro ρ hl' ⟨rfl, he, hkk⟩
  refine Tri.keep _ hkk ?_
  rw [he]
  exact Tri.treeR .nil rfl (by simp [leP, leE, leC])
def mayL (l : List Cel) : Bool := decide (0 < l.length) && !(l.any fun c => !cellR c) && rightL l
theorem may_ok {l : List Cel} (hl : l.length ≤ 1000000000000) : FnOk Tryz.prog 228 [vCl l] [] (vB (mayL l)) [] := by
  have h1 := hasC_ok (f := 264) (p := fun c => !cellR c) (fun o => may1_ok) hl
  have h2 := bRight_ok hl
  unfold mayL
  generalize (l.any fun c => !cellR c) = a at *
  generalize rightL l = b at *
  by_cases h : 0 < l.length
  · cases a with
    | true =>
      refine FnOk.tree t228 (.a (.b 7 true) (.f [] h1 .nil)) rfl rfl rfl rfl ?_
      simp [leVs, leP, leE, leL, leC, h]
    | false =>
      refine FnOk.tree t228 (.a (.b 7 true) (.f [] h1 (.f [] h2 .nil))) rfl rfl rfl rfl ?_
      simp [leVs, leP, leE, leL, leC, h]
  · refine FnOk.tree t228 (.a (.b 7 false) .nil) rfl rfl rfl rfl ?_
    simp [leVs, leP, leE, leL, leC, h]
/-- Versions: number, value. -/
abbrev Ch := List (Int × Int)
def rwV (l : Ch) : List (List D) := l.map fun c => [.int .u64 c.1, .int .u16 c.2]
@[simp] theorem rwV_len (l : Ch) : (rwV l).length = l.length := by simp [rwV]
theorem rwV_get {l : Ch} {i : Nat} (h : i < l.length) : (rwV l)[i]? = some [.int .u64 l[i].1, .int .u16 l[i].2] := by simp [rwV, h]
abbrev lVe (l : Ch) : D := .ls 2 l.length (rwV l)
abbrev vVe (l : Ch) : V := vD (lVe l)
def upL (l : Ch) (s : Int) : Nat := bsF (fun i => decide ((l.getD i default).1 ≤ s)) l.length 0 l.length
theorem upL_le (l : Ch) (s : Int) : upL l s ≤ l.length := bsF_le _ _ _ _ (by omega)
theorem mid2_ok {lo hi : Nat} : ((lo : Int) + hi).fdiv (2 ^ min (Int.toNat 1) IntKind.i64.bits) = (((lo + hi) / 2 : Nat) : Int) := by
  have : (2 : Int) ^ min (Int.toNat 1) IntKind.i64.bits = 2 := rfl
  rw [this, Int.fdiv_eq_ediv_of_nonneg _ (by decide)]
  omega
theorem upto_ok {l : Ch} (hl : l.length ≤ 1000000000) {s : Int} : FnOk Tryz.prog 286 [vVe l, vI .u64 s] [] (vI .i64 (upL l s)) [] := by
  refine FnOk.start t286 rfl rfl rfl ?_
  refine Tri.seq (Tri.go [] rfl trivial ?_)
  refine Tri.seq (Tri.go [] rfl trivial ?_)
  refine Tri.mid (fun ρ hl => hl = [] ∧ keepE ρ [5] = some [(5, vI .i64 (upL l s))]) ?_ ?_
  · refine Tri.block ?_
    refine Tri.lp (fun q ρ hl => ∃ lo hi f : Nat, q = hi - lo ∧ lo ≤ hi ∧ hi ≤ l.length ∧ hi - lo ≤ f ∧ bsF (fun i => decide ((l.getD i default).1 ≤ s)) f lo hi = upL l s ∧ hl = [] ∧
      keepE ρ [0, 1, 5, 6] = some [(0, vVe l), (1, vI .u64 s), (5, vI .i64 lo), (6, vI .i64 hi)]) l.length ⟨0, l.length, l.length, by omega, by omega, by omega, by omega, rfl, rfl, keep_of rfl rfl⟩ ?_
    rintro q ρ hl' ⟨lo, hi, f, rfl, h1, h2, h3, he, rfl, hkk⟩
    refine Tri.keep _ hkk ?_
    by_cases h : lo < hi
    · obtain ⟨f, rfl⟩ : ∃ g, f = g + 1 := ⟨f - 1, by omega⟩
      unfold bsF at he
      rw [if_pos h] at he
      have hm := mid2_ok (lo := lo) (hi := hi)
      have hml : (lo + hi) / 2 < l.length := by omega
      have hg := rwV_get hml
      have hb : (l.getD ((lo + hi) / 2) default).1 = l[(lo + hi) / 2].1 := by simp [List.getD_eq_getElem?_getD, hml]
      rw [hb] at he
      generalize l[(lo + hi) / 2] = c at *
      generalize hM : (lo + hi) / 2 = M at *
      refine Tri.seq (Tri.go [.b 12 true] rfl ⟨decide_eq_true (by omega), trivial⟩ ?_)
      refine Tri.block (Tri.seq (Tri.go [] rfl ?_ ?_))
      · exact ⟨by omega, by omega, trivial⟩
      rw [hm]
      by_cases hle : c.1 ≤ s
      · rw [if_pos (decide_eq_true hle)] at he
        refine Tri.seq (Tri.tree (.a (.at [.int .u64 c.1, .int .u16 c.2]) .nil) rfl ?_)
        refine ⟨⟨by omega, rfl, hg⟩, ?_⟩
        exact Tri.go [.b 23 true] rfl ⟨decide_eq_true hle, by omega, trivial⟩ ⟨hi - (M + 1), by omega, M + 1, hi, f, rfl, by omega, by omega, by omega, he, rfl, keep_of rfl (by simp)⟩
      · rw [if_neg (by simpa using hle)] at he
        refine Tri.seq (Tri.tree (.a (.at [.int .u64 c.1, .int .u16 c.2]) .nil) rfl ?_)
        refine ⟨⟨by omega, rfl, hg⟩, ?_⟩
        exact Tri.go [.b 23 false] rfl ⟨decide_eq_false hle, trivial⟩ ⟨M - lo, by omega, lo, M, f, rfl, by omega, by omega, by omega, he, rfl, keep_of rfl (by simp)⟩
    · have : lo = hi := by omega
      subst this
      have he' : bsF (fun i => decide ((l.getD i default).1 ≤ s)) f lo lo = lo := by cases f <;> simp [bsF]
      rw [he'] at he
      exact Tri.seq (Tri.tree (.a (.b 12 false) .nil) rfl ⟨decide_eq_false (by omega), rfl, keep_of rfl (by simp [he])⟩)
  rintro ρ hl' ⟨rfl, hkk⟩
  refine Tri.keep _ hkk ?_
  exact Tri.treeR .nil rfl (by simp [leP, leE, leC])
/-- What stands there as of a number. -/
def atL (l : Ch) (s : Int) : Int := if upL l s = 0 then 0 else (l.getD (upL l s - 1) default).2
theorem chAt_ok {l : Ch} (hl : l.length ≤ 1000000000) {s : Int} : FnOk Tryz.prog 263 [vVe l, vI .u64 s] [] (vI .u16 (atL l s)) [] := by
  have hu := upto_ok hl (s := s)
  have hle := upL_le l s
  unfold atL
  generalize upL l s = u at *
  by_cases h : u = 0
  · subst h
    refine FnOk.tree t263 (.f [] hu (.a (.b 10 true) .nil)) rfl rfl rfl rfl ?_
    simp [leVs, leP, leE, leL, leC]
  · have hlt : u - 1 < l.length := by omega
    have hg := rwV_get hlt
    have hc : (l.getD (u - 1) default) = l[u - 1] := by simp [List.getD_eq_getElem?_getD, hlt]
    rw [if_neg h, hc]
    generalize l[u - 1] = c at *
    refine FnOk.tree t263 (.f [] hu (.a (.b 10 false) (.a (.at [.int .u64 c.1, .int .u16 c.2]) .nil))) rfl rfl rfl rfl ?_
    simp [leVs, leP, leE, leL, leC]
    exact ⟨h, by omega, ⟨by omega, hg⟩⟩
def newL (l : Ch) : Int := if l.length = 0 then 0 else (l.getD (l.length - 1) default).1
theorem newest_ok {l : Ch} (hl : l.length ≤ 1000000000) : FnOk Tryz.prog 295 [vVe l] [] (vI .u64 (newL l)) [] := by
  unfold newL
  by_cases h : l.length = 0
  · refine FnOk.tree t295 (.a (.b 5 true) .nil) rfl rfl rfl rfl ?_
    simp [leVs, leP, leE, leL, leC, h]
  · have hlt : l.length - 1 < l.length := by omega
    have hg := rwV_get hlt
    have hc : (l.getD (l.length - 1) default) = l[l.length - 1] := by simp [List.getD_eq_getElem?_getD, hlt]
    rw [if_neg h, hc]
    generalize l[l.length - 1] = c at *
    refine FnOk.tree t295 (.a (.b 5 false) (.a (.at [.int .u64 c.1, .int .u16 c.2]) .nil)) rfl rfl rfl rfl ?_
    simp [leVs, leP, leE, leL, leC]
    exact ⟨by simpa using h, by omega, ⟨by omega, hg⟩⟩
end Go.Proofs.YthddlkhfkncgpaaGreat
