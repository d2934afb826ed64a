/-
  The document's Parse; lists that are lent.
-/
import Derived.Test.YtheaeddojcebjaaM14
set_option maxRecDepth 100000
set_option maxHeartbeats 4000000
set_option linter.unusedVariables false
set_option linter.unusedSimpArgs false
namespace Go.Proofs.Ytheaeddojcebjaa
open Go.RowKit

theorem known_rng {fn : Int} (h : known fn = true) : 1 ≤ fn ∧ fn ≤ 43 := by have := of_decide_eq_true h; omega
theorem rParse_ok {b : List Int} (hb : Byt b) (hl : b.length ≤ 1000000) : FnOk Try.prog 35 [vBy b] [] (askR (pAsk b)) [] := by
  by_cases h0 : b.length = 0
  · have : b = [] := List.eq_nil_of_length_eq_zero h0
    subst this
    exact FnOk.tree t35 .nil rfl rfl rfl rfl (by simp [pAsk, leP, leE, leEs, leL, leC])
  have hne : b ≠ [] := fun h => h0 (by rw [h]; rfl)
  by_cases h1 : 253 < b.length
  · have e : pAsk b = ({}, 1) := if_pos (.inr h1)
    rw [e]
    exact FnOk.tree t35 (.a (.b 10 false) (.a (.b 14 true) .nil)) rfl rfl rfl rfl (by simp [hne, leP, leE, leEs, leL, leC]; (all_goals (repeat (first | omega | (intro _) | apply And.intro | apply Iff.intro))))
  have hx := at_byt hb 0
  have hy := at_byt hb 1
  have hkn := rKnown_ok (b.getD 0 0)
  have g0 := rI_get (k := .u8) (l := b) (i := 0) (by omega)
  have q0 : ¬ (b.length = 0 ∨ 253 < b.length) := by omega
  cases hK : known (b.getD 0 0) with
  | false =>
    have e : pAsk b = ({ fn := b.getD 0 0 }, 1) := by unfold pAsk; rw [if_neg q0, if_pos hK]
    rw [e]
    rw [hK] at hkn
    generalize b.getD 0 0 = x0 at *
    exact FnOk.tree t35 (.a (.b 10 false) (.a (.b 14 false) (.a (.at [.int .u8 x0]) (.f [] hkn .nil)))) rfl rfl rfl rfl (by simp [hne, leP, leE, leEs, leL, leC, leVs, g0]; (all_goals (repeat (first | omega | (intro _) | apply And.intro | apply Iff.intro))))
  | true =>
    have hrd := read_ok hb (by omega) (by omega) hK
    have his := rd_is hb (by omega) (by omega) hK
    have kr := known_rng hK
    have e : pAsk b = if b.getD 0 0 = 43 ∧ b.length < 2 then ({ fn := b.getD 0 0 }, 3) else if b.getD 0 0 = 43 ∧ b.getD 1 0 ≠ 14 then ({ fn := b.getD 0 0 }, 1) else if (rdAsk (b.getD 0 0) b).2 then ((rdAsk (b.getD 0 0) b).1, 0) else ({ fn := b.getD 0 0 }, 3) := by
      unfold pAsk
      rw [if_neg q0, if_neg (by rw [hK]; decide), ← his.1]
      cases hr : (rdAsk (b.getD 0 0) b).2 with
      | true => rw [his.2 hr]
      | false => rfl
    rw [e]
    rw [hK] at hkn
    generalize rdAsk (b.getD 0 0) b = r at hrd ⊢
    obtain ⟨a, ok⟩ := r
    simp only at hrd ⊢
    clear e his hK
    have g1 : ¬ b.length < 2 → (rI .u8 b)[1]? = some [.int .u8 (b.getD 1 0)] := fun h => rI_get (by omega)
    generalize b.getD 0 0 = x0 at *
    generalize b.getD 1 0 = x1 at *
    by_cases h43 : x0 = 43
    · subst h43
      by_cases h2 : b.length < 2
      · rw [if_pos ⟨rfl, h2⟩]
        exact FnOk.tree t35 (.a (.b 10 false) (.a (.b 14 false) (.a (.at [.int .u8 43]) (.f [] hkn (.a (.b 33 true) .nil))))) rfl rfl rfl rfl (by simp [hne, leP, leE, leEs, leL, leC, leVs, g0]; (all_goals (repeat (first | omega | (intro _) | apply And.intro | apply Iff.intro))))
      rw [if_neg (by omega)]
      replace g1 := g1 h2
      by_cases h14 : x1 = 14
      · subst h14
        rw [if_neg (by simp)]
        cases ok with
        | true => exact FnOk.tree t35 (.a (.b 10 false) (.a (.b 14 false) (.a (.at [.int .u8 43]) (.f [] hkn (.a (.b 33 false) (.a (.at [.int .u8 14]) (.a (.b 43 false) (.f [] hrd .nil)))))))) rfl rfl rfl rfl (by simp [hne, leP, leE, leEs, leL, leC, leVs, g0, g1]; (all_goals (repeat (first | omega | (intro _) | apply And.intro | apply Iff.intro))))
        | false => exact FnOk.tree t35 (.a (.b 10 false) (.a (.b 14 false) (.a (.at [.int .u8 43]) (.f [] hkn (.a (.b 33 false) (.a (.at [.int .u8 14]) (.a (.b 43 false) (.f [] hrd .nil)))))))) rfl rfl rfl rfl (by simp [hne, leP, leE, leEs, leL, leC, leVs, g0, g1]; (all_goals (repeat (first | omega | (intro _) | apply And.intro | apply Iff.intro))))
      · rw [if_pos ⟨rfl, h14⟩]
        exact FnOk.tree t35 (.a (.b 10 false) (.a (.b 14 false) (.a (.at [.int .u8 43]) (.f [] hkn (.a (.b 33 false) (.a (.at [.int .u8 x1]) (.a (.b 43 true) .nil))))))) rfl rfl rfl rfl (by simp [hne, leP, leE, leEs, leL, leC, leVs, g0, g1, h14]; (all_goals (repeat (first | omega | (intro _) | apply And.intro | apply Iff.intro))))
    · rw [if_neg (by omega), if_neg (by omega)]
      cases ok with
      | true => exact FnOk.tree t35 (.a (.b 10 false) (.a (.b 14 false) (.a (.at [.int .u8 x0]) (.f [] hkn (.a (.b 29 false) (.a (.b 38 false) (.f [] hrd .nil))))))) rfl rfl rfl rfl (by simp [hne, leP, leE, leEs, leL, leC, leVs, g0, h43]; (all_goals (repeat (first | omega | (intro _) | apply And.intro | apply Iff.intro))))
      | false => exact FnOk.tree t35 (.a (.b 10 false) (.a (.b 14 false) (.a (.at [.int .u8 x0]) (.f [] hkn (.a (.b 29 false) (.a (.b 38 false) (.f [] hrd .nil))))))) rfl rfl rfl rfl (by simp [hne, leP, leE, leEs, leL, leC, leVs, g0, h43]; (all_goals (repeat (first | omega | (intro _) | apply And.intro | apply Iff.intro))))

/-- A list that is lent: k marks of three are set behind it. -/
def lent (m : Int) (l : List Int) (k : Nat) : List Int := l ++ (List.replicate k m ++ List.replicate (3 - k) 0)
theorem lent_len (m : Int) (l : List Int) {k : Nat} (h : k ≤ 3) : (lent m l k).length = l.length + 3 := by simp [lent]; omega
theorem lent_set (m : Int) (l : List Int) {k : Nat} (h : k < 3) : (lent m l k).set (l.length + k) m = lent m l (k + 1) := by
  unfold lent
  rw [List.set_append_right _ _ (by omega), show l.length + k - l.length = k by omega, List.set_append_right _ _ (by simp)]
  congr 1
  rw [show 3 - k = (2 - k) + 1 by omega, List.replicate_succ]
  simp only [List.length_replicate, Nat.sub_self, List.set_cons_zero]
  rw [List.replicate_succ', List.append_assoc, show 3 - (k + 1) = 2 - k by omega]
  rfl
theorem lentBytes_ok {l : List Int} (hl : l.length ≤ 1000000) : FnOk Try.prog 33 [vBy l] [] (vL 1 l.length (rI .u8 (lent 165 l 3))) [] := by
  refine FnOk.start t33 rfl rfl rfl ?_
  refine Tri.seq (Tri.go [] rfl trivial ?_)
  refine Tri.seq (Tri.go [] rfl ⟨by omega, by omega, trivial⟩ ?_)
  refine Tri.seq (Tri.go [] rfl ?_ ?_)
  · simp
  have e0 : List.take 0 (List.replicate ((l.length : Int) + 3).toNat [D.int .u8 0]) ++ (rI .u8 l).take (min l.length ((l.length : Int) + 3).toNat) ++ List.drop (0 + min l.length ((l.length : Int) + 3).toNat) (List.replicate ((l.length : Int) + 3).toNat [D.int .u8 0]) = rI .u8 (lent 165 l 0) := by
    rw [show ((l.length : Int) + 3).toNat = l.length + 3 by omega, show min l.length (l.length + 3) = l.length by omega, rI_rep, rI_take, rI_take, rI_drop, rI_app, rI_app]
    simp [lent]
  refine Tri.seq (Tri.seq (Tri.go [] rfl trivial ?_))
  refine Tri.block ?_
  refine Tri.lp (fun q ρ hl => ∃ k, q = 3 - k ∧ k ≤ 3 ∧ hl = [.arr 1 (rI .u8 (lent 165 l k))] ∧ keepE ρ [0, 3, 4] = some [(0, vBy l), (3, vC (.sl 0 0 (l.length + 3))), (4, vI .i64 (l.length + k : Nat))]) 3 ⟨0, by omega, by omega, ?_, keep_of rfl ?_⟩ ?_
  · exact congrArg (fun x => [Ob.arr 1 x]) e0
  · rw [show ((l.length : Int) + 3).toNat = l.length + 3 by omega]; rfl
  rintro q ρ hl' ⟨k, rfl, hk3, rfl, hk⟩
  refine Tri.keep _ hk ?_
  by_cases h : k < 3
  · refine Tri.go [.b 17 true] rfl ?_ (again (3 - (k + 1)) (by omega) ⟨k + 1, rfl, by omega, ?_, keep_of rfl (by simp; omega)⟩)
    · simp [lent_len _ _ hk3]; omega
    · simp only [Nat.zero_add, Int.toNat_natCast, rI_mod, lent_set _ _ h]
  · refine Tri.go [.b 17 false] rfl ⟨decide_eq_false (by omega), trivial⟩ (outQ ?_)
    have hk' : k = 3 := by omega
    subst hk'
    refine Tri.treeR (.a (.call [] [0] .u []) .nil) rfl ?_
    simp [leP, leE, leC, lent_len]
    exact .nil
theorem getD_app {l m : List Int} {i : Nat} (h : i < l.length) : (l ++ m).getD i 0 = l.getD i 0 := by simp [List.getD_eq_getElem?_getD, List.getElem?_append_left h]
theorem lent_mark (m : Int) (l : List Int) {i : Nat} (h1 : l.length ≤ i) (h2 : i < l.length + 3) : (lent m l 3).getD i 0 = m := by
  unfold lent
  rw [List.getD_eq_getElem?_getD, List.getElem?_append_right h1]
  have : i - l.length < 3 := by omega
  generalize i - l.length = j at this
  match j, this with
  | 0, _ => rfl
  | 1, _ => rfl
  | 2, _ => rfl
theorem staysBytes_ok {l : List Int} (hl : l.length ≤ 1000000) : FnOk Try.prog 37 [vL 1 l.length (rI .u8 (lent 165 l 3)), vBy l] [] (vB true) [] := by
  refine FnOk.start t37 rfl rfl rfl ?_
  refine Tri.seq (Tri.go [] rfl trivial ?_)
  refine Tri.seq (Tri.go [.b 11 false] rfl ⟨by simp, trivial⟩ ?_)
  have hll := lent_len 165 l (k := 3) (by omega)
  refine Tri.seq (Tri.go [] rfl ⟨by omega, by simp [hll]; omega, trivial⟩ ?_)
  refine Tri.seq (Tri.seq (Tri.go [] rfl trivial ?_))
  refine Tri.block ?_
  refine Tri.lp (fun q ρ hl => ∃ i, q = l.length + 3 - i ∧ i ≤ l.length + 3 ∧ hl = [] ∧ keepE ρ [1, 5, 6] = some [(1, vBy l), (5, vL 1 (l.length + 3) (rI .u8 (lent 165 l 3))), (6, vI .i64 i)]) (l.length + 3) ⟨0, by omega, by omega, rfl, keep_of rfl ?_⟩ ?_
  · have e : ((some ((l.length : Int) + 3)).getD l.length).toNat - ((none : Option Int).getD 0).toNat = l.length + 3 := by simp; omega
    rw [e]
    simp [rI_take, List.take_of_length_le, hll]
  rintro q ρ hl' ⟨i, rfl, hi, rfl, hk⟩
  refine Tri.keep _ hk ?_
  by_cases h : i < l.length + 3
  · have g1 : (rI .u8 (lent 165 l 3))[i]? = some [.int .u8 ((lent 165 l 3).getD i 0)] := rI_get (by omega)
    by_cases h2 : i < l.length
    · have g2 : (rI .u8 l)[i]? = some [.int .u8 (l.getD i 0)] := rI_get h2
      rw [show (lent 165 l 3).getD i 0 = l.getD i 0 from getD_app h2] at g1
      generalize l.getD i 0 = x at g1 g2
      refine Tri.go [.b 20 true, .b 27 true, .at [.int .u8 x], .at [.int .u8 x], .b 38 false, .b 43 false, .b 50 false] rfl ?_ (again (l.length + 3 - (i + 1)) (by omega) ⟨i + 1, rfl, by omega, rfl, keep_of rfl (by simp)⟩)
      simp [g1, g2]
      omega
    · have g3 := lent_mark 165 l (i := i) (by omega) (by omega)
      rw [g3] at g1
      refine Tri.go [.b 20 true, .b 27 false, .b 43 true, .at [.int .u8 165], .b 50 false] rfl ?_ (again (l.length + 3 - (i + 1)) (by omega) ⟨i + 1, rfl, by omega, rfl, keep_of rfl (by simp)⟩)
      simp [g1]
      omega
  · refine Tri.go [.b 20 false] rfl ⟨decide_eq_false (by omega), trivial⟩ (outQ ?_)
    exact Tri.treeR .nil rfl (by simp [leP, leE, leC])
end Go.Proofs.Ytheaeddojcebjaa
