/-
  The program's buffers of cells: order, find, Get, Put, Right; whether cells may be.
-/
import Derived.Test.YthddlkhfkncgpaaGreatC1
import Derived.Test.YthddlkhfkncgpaaGreatN1
set_option maxRecDepth 100000
set_option maxHeartbeats 1000000
set_option linter.unusedVariables false
set_option linter.unusedSimpArgs false
namespace Go.Proofs.YthddlkhfkncgpaaGreat
open Go.RowKit

def keyR (t a : Int) : Bool := decide (0 ≤ t) && decide (t < 4) && decide (0 ≤ a) && decide (a < 65536)
theorem cKey_ok {t a : Int} : FnOk Tryz.prog 287 [vK t a] [] (vB (keyR t a)) [] := by
  refine FnOk.tree t287 (.br 6 (.br 11 (.br 16 .nil .nil) .nil) .nil) rfl rfl rfl rfl ?_
  simp [leP, leE, leC, keyR]
  omega
theorem bits_ok {t : Int} : FnOk Tryz.prog 288 [vI .i64 t] [] (vB (t == 0 || t == 1)) [] := by
  refine FnOk.tree t288 (.br 5 .nil .nil) rfl rfl rfl rfl ?_
  simp [leP, leE, leC]
  by_cases h : t = 0 <;> simp [h]
def cellR (c : Cel) : Bool := keyR c.1 c.2.1 && (decide (c.2.2 ≤ 1) || !(c.1 == 0 || c.1 == 1))
theorem cRight_ok {c : Cel} : FnOk Tryz.prog 265 [vC3 c] [] (vB (cellR c)) [] := by
  have hk := cKey_ok (t := c.1) (a := c.2.1)
  have hb := bits_ok (t := c.1)
  unfold cellR
  generalize keyR c.1 c.2.1 = k at *
  generalize (c.1 == 0 || c.1 == 1) = q at *
  refine FnOk.tree t265 (.f [] hk (.br 6 (.br 10 .nil (.f [] hb .nil)) .nil)) rfl rfl rfl rfl ?_
  simp [leVs, leP, leE, leL, leC]
  cases k <;> simp
  by_cases h : c.2.2 ≤ 1 <;> simp [h]
  intro h'
  omega
theorem may1_ok {c : Cel} : FnOk Tryz.prog 264 [vC3 c] [] (vB (!cellR c)) [] := by
  have hk := cRight_ok (c := c)
  refine FnOk.tree t264 (.f [] hk .nil) rfl rfl rfl rfl ?_
  simp [leVs, leP, leE, leL, leC]
def cmpI (a b : Int) : Int := if a < b then -1 else if b < a then 1 else 0
theorem cmp_ok {a b : Int} : FnOk Tryz.prog 294 [vI .i64 a, vI .i64 b] [] (vI .i64 (cmpI a b)) [] := by
  have h1 := isNaN_ok (a := a)
  have h2 := isNaN_ok (a := b)
  refine FnOk.tree t294 (.f [] h1 (.f [] h2 (.br 16 .nil (.br 19 .nil .nil)))) rfl rfl rfl rfl ?_
  simp [leVs, leP, leE, leL, leC, cmpI]
  omega
theorem or_ok {a b : Int} : FnOk Tryz.prog 293 [vD (lI .i64 [a, b])] [] (vI .i64 (if a ≠ 0 then a else b)) [] := by
  refine FnOk.start t293 rfl rfl rfl ?_
  refine Tri.seq (Tri.go [] rfl trivial ?_)
  refine Tri.seq (Tri.go [] rfl trivial ?_)
  refine Tri.mid (fun ρ hl => hl = [] ∧ (if a ≠ 0 then a else b) = 0 ∧ keepE ρ [3] = some [(3, vI .i64 0)]) ?_ ?_
  · refine Tri.seq (Tri.go [] rfl trivial ?_)
    refine Tri.block ?_
    refine Tri.lp (fun q ρ hl => ∃ i, q = 2 - i ∧ i ≤ 2 ∧ (0 < i → a = 0) ∧ (1 < i → b = 0) ∧ hl = [] ∧ keepE ρ [3, 6, 7, 8] = some [(3, vI .i64 0), (6, vD (lI .i64 [a, b])), (7, vI .i64 2), (8, vI .i64 i)]) 2 ⟨0, rfl, by omega, by omega, by omega, rfl, keep_of rfl rfl⟩ ?_
    rintro q ρ hl' ⟨i, rfl, hi, ha, hb, rfl, hkk⟩
    refine Tri.keep _ hkk ?_
    match i, hi with
    | 0, _ =>
      refine Tri.seq (Tri.go [] rfl trivial (Tri.seq (Tri.go [.b 9 true] rfl ⟨rfl, trivial⟩ ?_)))
      by_cases h : a = 0
      · subst h
        refine Tri.seq (Tri.block (Tri.tree (.a (.at [.int .i64 0]) .nil) rfl ⟨⟨by simp, rfl, rfl⟩, ?_⟩))
        exact Tri.go [] rfl ⟨by omega, trivial⟩ (again 1 (by omega) ⟨1, rfl, by omega, fun _ => rfl, by omega, rfl, keep_of rfl rfl⟩)
      · refine Tri.seq (Tri.block (Tri.tree (.a (.at [.int .i64 a]) (.a (.b 14 true) .nil)) rfl ⟨⟨by simp, rfl, rfl⟩, by simpa using h, ?_⟩))
        rw [if_pos h]
        exact RetQ.le [] [] rfl trivial (.refl _) (.refl _)
    | 1, _ =>
      have ha := ha (by omega)
      subst ha
      refine Tri.seq (Tri.go [] rfl trivial (Tri.seq (Tri.go [.b 9 true] rfl ⟨rfl, trivial⟩ ?_)))
      by_cases h : b = 0
      · subst h
        refine Tri.seq (Tri.block (Tri.tree (.a (.at [.int .i64 0]) .nil) rfl ⟨⟨by simp, rfl, rfl⟩, ?_⟩))
        exact Tri.go [] rfl ⟨by omega, trivial⟩ (again 0 (by omega) ⟨2, rfl, by omega, fun _ => rfl, fun _ => rfl, rfl, keep_of rfl rfl⟩)
      · refine Tri.seq (Tri.block (Tri.tree (.a (.at [.int .i64 b]) (.a (.b 14 true) .nil)) rfl ⟨⟨by simp, rfl, rfl⟩, by simpa using h, ?_⟩))
        exact RetQ.le [] [] rfl trivial (.refl _) (.refl _)
    | 2, _ =>
      have ha := ha (by omega)
      have hb := hb (by omega)
      subst ha hb
      exact Tri.seq (Tri.go [] rfl trivial (Tri.seq (Tri.go [.b 9 false] rfl ⟨rfl, trivial⟩ (And.intro rfl (And.intro rfl (keep_of rfl rfl))))))
  rintro ρ hl' ⟨rfl, he, hkk⟩
  refine Tri.keep _ hkk ?_
  rw [he]
  exact Tri.treeR .nil rfl (by simp [leP, leE, leC])
def ordK (t a u b : Int) : Int := if cmpI t u ≠ 0 then cmpI t u else cmpI a b
theorem ordK_lt {t a u b : Int} : decide (ordK t a u b < 0) = lessK t a u b := by
  unfold ordK cmpI lessK
  by_cases h1 : t < u
  · simp [h1]
  · by_cases h2 : u < t
    · have : ¬ t = u := by omega
      simp [h1, h2, this]
    · have : t = u := by omega
      subst this
      by_cases h3 : a < b
      · simp [h3]
      · by_cases h4 : b < a <;> simp [h3, h4]
theorem ordK_eq {t a u b : Int} : decide (ordK t a u b = 0) = (t == u && a == b) := by
  unfold ordK cmpI
  by_cases h1 : t < u
  · have : ¬ t = u := by omega
    simp [h1, this]
  · by_cases h2 : u < t
    · have : ¬ t = u := by omega
      simp [h1, h2, this]
    · have : t = u := by omega
      subst this
      by_cases h3 : a < b
      · have : ¬ a = b := by omega
        simp [h3, this]
      · by_cases h4 : b < a
        · have : ¬ a = b := by omega
          simp [h3, h4, this]
        · have : a = b := by omega
          simp [this]
theorem order_ok {t a u b : Int} : FnOk Tryz.prog 285 [vK t a, vK u b] [] (vI .i64 (ordK t a u b)) [] := by
  have h1 := cmp_ok (a := t) (b := u)
  have h2 := cmp_ok (a := a) (b := b)
  have h3 := or_ok (a := cmpI t u) (b := cmpI a b)
  refine FnOk.tree t285 (.f [] h1 (.f [] h2 (.f [] h3 .nil))) rfl rfl rfl rfl ?_
  simp [leVs, leP, leE, leL, leC, ordK, rI]
theorem find1_ok {c : Cel} {t a : Int} : FnOk Tryz.prog 284 [vC3 c, vK t a] [] (vI .i64 (ordK c.1 c.2.1 t a)) [] := by
  have h1 := order_ok (t := c.1) (a := c.2.1) (u := t) (b := a)
  refine FnOk.tree t284 (.f [] h1 .nil) rfl rfl rfl rfl ?_
  simp [leVs, leP, leE, leL, leC]
end Go.Proofs.YthddlkhfkncgpaaGreat
