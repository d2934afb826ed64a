/-
  Lists of words and of bits that are lent.
-/
import Derived.Test.YtheaeddojcebjaaM16
set_option maxRecDepth 100000
set_option maxHeartbeats 4000000
set_option linter.unusedVariables false
set_option linter.unusedSimpArgs false
namespace Go.Proofs.Ytheaeddojcebjaa
open Go.RowKit

theorem leOs_nil7 : LeOs [] [] := .nil
theorem lentWords_ok {l : List Int} (hl : l.length ≤ 1000000) : FnOk Try.prog 54 [vWd l] [] (vL 1 l.length (rI .u16 (lent 42405 l 3))) [] := by
  refine FnOk.start t54 rfl rfl rfl ?_
  refine Tri.seq (Tri.go [] rfl trivial ?_)
  refine Tri.seq (Tri.go [] rfl ⟨by omega, by omega, trivial⟩ ?_)
  refine Tri.seq (Tri.go [] rfl ?_ ?_)
  · simp
  have e0 : List.take 0 (List.replicate ((l.length : Int) + 3).toNat [D.int .u16 0]) ++ (rI .u16 l).take (min l.length ((l.length : Int) + 3).toNat) ++ List.drop (0 + min l.length ((l.length : Int) + 3).toNat) (List.replicate ((l.length : Int) + 3).toNat [D.int .u16 0]) = rI .u16 (lent 42405 l 0) := by
    rw [show ((l.length : Int) + 3).toNat = l.length + 3 by omega, show min l.length (l.length + 3) = l.length by omega, rI_rep, rI_take, rI_take, rI_drop, rI_app, rI_app]
    simp [lent]
  refine Tri.seq (Tri.seq (Tri.go [] rfl trivial ?_))
  refine Tri.block ?_
  refine Tri.lp (fun q ρ hl => ∃ k, q = 3 - k ∧ k ≤ 3 ∧ hl = [.arr 1 (rI .u16 (lent 42405 l k))] ∧ keepE ρ [0, 3, 4] = some [(0, vWd l), (3, vC (.sl 0 0 (l.length + 3))), (4, vI .i64 (l.length + k : Nat))]) 3 ⟨0, by omega, by omega, ?_, keep_of rfl ?_⟩ ?_
  · exact congrArg (fun x => [Ob.arr 1 x]) e0
  · rw [show ((l.length : Int) + 3).toNat = l.length + 3 by omega]; rfl
  rintro q ρ hl' ⟨k, rfl, hk3, rfl, hk⟩
  refine Tri.keep _ hk ?_
  by_cases h : k < 3
  · refine Tri.go [.b 17 true] rfl ?_ (again (3 - (k + 1)) (by omega) ⟨k + 1, rfl, by omega, ?_, keep_of rfl (by simp; omega)⟩)
    · simp [lent_len _ _ hk3]; omega
    · simp only [Nat.zero_add, Int.toNat_natCast, rI_mod, lent_set _ _ h]
  · refine Tri.go [.b 17 false] rfl ⟨decide_eq_false (by omega), trivial⟩ (outQ ?_)
    have hk' : k = 3 := by omega
    subst hk'
    refine Tri.treeR (.a (.call [] [0] .u []) .nil) rfl ?_
    simp [leP, leE, leC, lent_len, leOs_nil7]
theorem staysWords_ok {l : List Int} (hl : l.length ≤ 1000000) : FnOk Try.prog 59 [vL 1 l.length (rI .u16 (lent 42405 l 3)), vWd l] [] (vB true) [] := by
  refine FnOk.start t59 rfl rfl rfl ?_
  refine Tri.seq (Tri.go [] rfl trivial ?_)
  refine Tri.seq (Tri.go [.b 11 false] rfl ⟨by simp, trivial⟩ ?_)
  have hll := lent_len 42405 l (k := 3) (by omega)
  refine Tri.seq (Tri.go [] rfl ⟨by omega, by simp [hll]; omega, trivial⟩ ?_)
  refine Tri.seq (Tri.seq (Tri.go [] rfl trivial ?_))
  refine Tri.block ?_
  refine Tri.lp (fun q ρ hl => ∃ i, q = l.length + 3 - i ∧ i ≤ l.length + 3 ∧ hl = [] ∧ keepE ρ [1, 5, 6] = some [(1, vWd l), (5, vL 1 (l.length + 3) (rI .u16 (lent 42405 l 3))), (6, vI .i64 i)]) (l.length + 3) ⟨0, by omega, by omega, rfl, keep_of rfl ?_⟩ ?_
  · have e : ((some ((l.length : Int) + 3)).getD l.length).toNat - ((none : Option Int).getD 0).toNat = l.length + 3 := by simp; omega
    rw [e]
    simp [rI_take, List.take_of_length_le, hll]
  rintro q ρ hl' ⟨i, rfl, hi, rfl, hk⟩
  refine Tri.keep _ hk ?_
  by_cases h : i < l.length + 3
  · have g1 : (rI .u16 (lent 42405 l 3))[i]? = some [.int .u16 ((lent 42405 l 3).getD i 0)] := rI_get (by omega)
    by_cases h2 : i < l.length
    · have g2 : (rI .u16 l)[i]? = some [.int .u16 (l.getD i 0)] := rI_get h2
      rw [show (lent 42405 l 3).getD i 0 = l.getD i 0 from getD_app h2] at g1
      generalize l.getD i 0 = x at g1 g2
      refine Tri.go [.b 20 true, .b 27 true, .at [.int .u16 x], .at [.int .u16 x], .b 38 false, .b 43 false, .b 50 false] rfl ?_ (again (l.length + 3 - (i + 1)) (by omega) ⟨i + 1, rfl, by omega, rfl, keep_of rfl (by simp)⟩)
      simp [g1, g2]
      omega
    · have g3 := lent_mark 42405 l (i := i) (by omega) (by omega)
      rw [g3] at g1
      refine Tri.go [.b 20 true, .b 27 false, .b 43 true, .at [.int .u16 42405], .b 50 false] rfl ?_ (again (l.length + 3 - (i + 1)) (by omega) ⟨i + 1, rfl, by omega, rfl, keep_of rfl (by simp)⟩)
      simp [g1]
      omega
  · refine Tri.go [.b 20 false] rfl ⟨decide_eq_false (by omega), trivial⟩ (outQ ?_)
    exact Tri.treeR .nil rfl (by simp [leP, leE, leC])

def lentF (l : List Bool) (k : Nat) : List Bool := l ++ (List.replicate k true ++ List.replicate (3 - k) false)
theorem lentF_len (l : List Bool) {k : Nat} (h : k ≤ 3) : (lentF l k).length = l.length + 3 := by simp [lentF]; omega
theorem lentF_set (l : List Bool) {k : Nat} (h : k < 3) : (lentF l k).set (l.length + k) true = lentF l (k + 1) := by
  unfold lentF
  rw [List.set_append_right _ _ (by omega), show l.length + k - l.length = k by omega, List.set_append_right _ _ (by simp)]
  congr 1
  rw [show 3 - k = (2 - k) + 1 by omega, List.replicate_succ]
  simp only [List.length_replicate, Nat.sub_self, List.set_cons_zero]
  rw [List.replicate_succ', List.append_assoc, show 3 - (k + 1) = 2 - k by omega]
  rfl
theorem getDF_app {l m : List Bool} {i : Nat} (h : i < l.length) : (l ++ m).getD i false = l.getD i false := by simp [List.getD_eq_getElem?_getD, List.getElem?_append_left h]
theorem lentF_mark (l : List Bool) {i : Nat} (h1 : l.length ≤ i) (h2 : i < l.length + 3) : (lentF l 3).getD i false = true := by
  unfold lentF
  rw [List.getD_eq_getElem?_getD, List.getElem?_append_right h1]
  have : i - l.length < 3 := by omega
  generalize i - l.length = j at this
  match j, this with
  | 0, _ => rfl
  | 1, _ => rfl
  | 2, _ => rfl
theorem lentBits_ok {l : List Bool} (hl : l.length ≤ 1000000) : FnOk Try.prog 53 [vFs l] [] (vL 1 l.length (rF (lentF l 3))) [] := by
  refine FnOk.start t53 rfl rfl rfl ?_
  refine Tri.seq (Tri.go [] rfl trivial ?_)
  refine Tri.seq (Tri.go [] rfl ⟨by omega, by omega, trivial⟩ ?_)
  refine Tri.seq (Tri.go [] rfl ?_ ?_)
  · simp
  have e0 : List.take 0 (List.replicate ((l.length : Int) + 3).toNat [D.bool false]) ++ (rF l).take (min l.length ((l.length : Int) + 3).toNat) ++ List.drop (0 + min l.length ((l.length : Int) + 3).toNat) (List.replicate ((l.length : Int) + 3).toNat [D.bool false]) = rF (lentF l 0) := by
    rw [show ((l.length : Int) + 3).toNat = l.length + 3 by omega, show min l.length (l.length + 3) = l.length by omega, rF_rep, rF_take, rF_take, rF_drop, rF_app, rF_app]
    simp [lentF]
  refine Tri.seq (Tri.seq (Tri.go [] rfl trivial ?_))
  refine Tri.block ?_
  refine Tri.lp (fun q ρ hl => ∃ k, q = 3 - k ∧ k ≤ 3 ∧ hl = [.arr 1 (rF (lentF l k))] ∧ keepE ρ [0, 3, 4] = some [(0, vFs l), (3, vC (.sl 0 0 (l.length + 3))), (4, vI .i64 (l.length + k : Nat))]) 3 ⟨0, by omega, by omega, ?_, keep_of rfl ?_⟩ ?_
  · exact congrArg (fun x => [Ob.arr 1 x]) e0
  · rw [show ((l.length : Int) + 3).toNat = l.length + 3 by omega]; rfl
  rintro q ρ hl' ⟨k, rfl, hk3, rfl, hk⟩
  refine Tri.keep _ hk ?_
  by_cases h : k < 3
  · refine Tri.go [.b 17 true] rfl ?_ (again (3 - (k + 1)) (by omega) ⟨k + 1, rfl, by omega, ?_, keep_of rfl (by simp; omega)⟩)
    · simp [lentF_len _ hk3]; omega
    · simp only [Nat.zero_add, Int.toNat_natCast, rF_mod, lentF_set _ h]
  · refine Tri.go [.b 17 false] rfl ⟨decide_eq_false (by omega), trivial⟩ (outQ ?_)
    have hk' : k = 3 := by omega
    subst hk'
    refine Tri.treeR (.a (.call [] [0] .u []) .nil) rfl ?_
    simp [leP, leE, leC, lentF_len, leOs_nil7]
theorem staysBits_ok {l : List Bool} (hl : l.length ≤ 1000000) : FnOk Try.prog 58 [vL 1 l.length (rF (lentF l 3)), vFs l] [] (vB true) [] := by
  refine FnOk.start t58 rfl rfl rfl ?_
  refine Tri.seq (Tri.go [] rfl trivial ?_)
  refine Tri.seq (Tri.go [.b 11 false] rfl ⟨by simp, trivial⟩ ?_)
  have hll := lentF_len l (k := 3) (by omega)
  refine Tri.seq (Tri.go [] rfl ⟨by omega, by simp [hll]; omega, trivial⟩ ?_)
  refine Tri.seq (Tri.seq (Tri.go [] rfl trivial ?_))
  refine Tri.block ?_
  refine Tri.lp (fun q ρ hl => ∃ i, q = l.length + 3 - i ∧ i ≤ l.length + 3 ∧ hl = [] ∧ keepE ρ [1, 5, 6] = some [(1, vFs l), (5, vL 1 (l.length + 3) (rF (lentF l 3))), (6, vI .i64 i)]) (l.length + 3) ⟨0, by omega, by omega, rfl, keep_of rfl ?_⟩ ?_
  · have e : ((some ((l.length : Int) + 3)).getD l.length).toNat - ((none : Option Int).getD 0).toNat = l.length + 3 := by simp; omega
    rw [e]
    simp [rF_take, List.take_of_length_le, hll]
  rintro q ρ hl' ⟨i, rfl, hi, rfl, hk⟩
  refine Tri.keep _ hk ?_
  by_cases h : i < l.length + 3
  · have g1 : (rF (lentF l 3))[i]? = some [.bool ((lentF l 3).getD i false)] := rF_get (by omega)
    by_cases h2 : i < l.length
    · have g2 : (rF l)[i]? = some [.bool (l.getD i false)] := rF_get h2
      rw [show (lentF l 3).getD i false = l.getD i false from getDF_app h2] at g1
      generalize l.getD i false = x at g1 g2
      refine Tri.go [.b 20 true, .b 27 true, .at [.bool x], .at [.bool x], .b 38 false, .b 43 false, .b 50 false] rfl ?_ (again (l.length + 3 - (i + 1)) (by omega) ⟨i + 1, rfl, by omega, rfl, keep_of rfl (by simp)⟩)
      simp [g1, g2]
      omega
    · have g3 := lentF_mark l (i := i) (by omega) (by omega)
      rw [g3] at g1
      refine Tri.go [.b 20 true, .b 27 false, .b 43 true, .at [.bool true], .b 50 false] rfl ?_ (again (l.length + 3 - (i + 1)) (by omega) ⟨i + 1, rfl, by omega, rfl, keep_of rfl (by simp)⟩)
      simp [g1]
      omega
  · refine Tri.go [.b 20 false] rfl ⟨decide_eq_false (by omega), trivial⟩ (outQ ?_)
    exact Tri.treeR .nil rfl (by simp [leP, leE, leC])

end Go.Proofs.Ytheaeddojcebjaa
