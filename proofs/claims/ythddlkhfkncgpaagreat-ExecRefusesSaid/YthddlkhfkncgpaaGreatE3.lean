/-
  Words: Clone, Split; the control window's registers; replies that tell what was read; Lay; Writes.
-/
import Derived.Test.YthddlkhfkncgpaaGreatE2
import Derived.Test.YthddlkhfkncgpaaGreatC3
import Derived.Test.YthddlkhfkncgpaaGreatM31f
set_option maxRecDepth 100000
set_option maxHeartbeats 1000000
set_option linter.unusedVariables false
set_option linter.unusedSimpArgs false
namespace Go.Proofs.YthddlkhfkncgpaaGreat
open Go.RowKit

theorem cloneW_ok {l : List Int} (hl : l.length ≤ 1000000000) : FnOk Tryz.prog 173 [vWd l] [] (vWd l) [] := by
  refine FnOk.start t173 rfl rfl rfl ?_
  refine Tri.seq (Tri.go [] rfl trivial ?_)
  refine Tri.mid (fun ρ hl => hl = [] ∧ keepE ρ [0] = some [(0, vWd l)]) ?_ ?_
  · have hm : OpS Tryz.prog 8 (.mv (.tmp 0)) [(2, vD .nil), (0, vWd l)] [] { v := vWd l } := ⟨by simp [Res.ids], fun o ho => aop_ok ho rfl trivial⟩
    refine Tri.seq (Tri.regionN (Rgn.step (OpN.of hm) ?_))
    rintro s rfl
    refine Rgn.step (OpN.eqNilL (n := l.length) (r := rI .u16 l) rfl) ?_
    rintro s ⟨b, rfl, hb⟩
    cases b with
    | false => exact Tri.go [] rfl trivial (And.intro rfl (keep_of rfl rfl))
    | true =>
      have : l = [] := List.length_eq_zero_iff.1 (hb rfl)
      subst this
      refine Tri.cond rfl (fun _ => ?_) (fun h => by cases h)
      refine Tri.seq (Tri.go [] rfl trivial ?_)
      exact Tri.ret (RetQ.le [] [] rfl trivial (.e (.c (.t (.nil 1)))) (.refl _))
  rintro ρ hl' ⟨rfl, hkk⟩
  refine Tri.keep _ hkk ?_
  refine Tri.treeR (.w (.a (.call [] [1] .u []) .nil)) rfl ⟨trivial, ⟨.inr rfl, rfl, rfl, by simp, by omega, by omega⟩, ⟨by simp, trivial⟩, .of rfl, by simp [leP, leE, leC, List.take_of_length_le]⟩
/-- The four words of a number, the highest one first. -/
def splitW (v : Int) : List Int := [v / 281474976710656 % 65536, v / 4294967296 % 65536, v / 65536 % 65536, v % 65536]
def shW (i : Nat) : Int := 16 * (3 - i)
theorem shift_ok {i : Nat} (h : i < 4) : FnOk Tryz.prog 257 [vI .i64 i, vI .i64 4, vB false] [] (vI .u64 (shW i)) [] := by
  have h4 : i = 0 ∨ i = 1 ∨ i = 2 ∨ i = 3 := by omega
  rcases h4 with rfl | rfl | rfl | rfl
  all_goals exact FnOk.tree t257 .nil rfl rfl rfl rfl (by simp [leP, leE, leC, shW, wu64])
theorem splitW_at {v : Int} (hv : 0 ≤ v) {i : Nat} (h : i < 4) : v.fdiv (2 ^ (min (shW i).toNat IntKind.u64.bits)) % 65536 = (splitW v).getD i 0 := by
  have h4 : i = 0 ∨ i = 1 ∨ i = 2 ∨ i = 3 := by omega
  have e : ∀ d : Int, 0 ≤ d → v.fdiv d = v / d := fun d hd => Int.fdiv_eq_ediv_of_nonneg _ hd
  rcases h4 with rfl | rfl | rfl | rfl
  · show v.fdiv 281474976710656 % 65536 = _; rw [e _ (by decide)]; rfl
  · show v.fdiv 4294967296 % 65536 = _; rw [e _ (by decide)]; rfl
  · show v.fdiv 65536 % 65536 = _; rw [e _ (by decide)]; rfl
  · show v.fdiv 1 % 65536 = _; rw [e _ (by decide)]; simp [splitW]
theorem split_ok {v : Int} (hv : 0 ≤ v) : FnOk Tryz.prog 220 [vI .u64 v, vI .i64 4, vB false] [] (.tup [.c (.t (lI .u16 (splitW v))), .c (.t (.bool true))]) [] := by
  refine FnOk.start t220 rfl rfl rfl ?_
  refine Tri.seq (Tri.go [] rfl trivial ?_)
  refine Tri.seq (Tri.tree (.a (.b 12 false) (.a (.b 16 false) (.a (.b 19 false) .nil))) rfl ?_)
  refine ⟨rfl, rfl, rfl, ?_⟩
  refine Tri.seq (Tri.go [] rfl ⟨⟨by omega, by omega, by omega, by omega⟩, trivial⟩ ?_)
  refine Tri.mid (fun ρ hl => hl = [.arr 1 (rI .u16 (splitW v))] ∧ keepE ρ [8] = some [(8, vC (.sl 0 0 4))]) ?_ ?_
  · refine Tri.seq (Tri.go [] rfl trivial ?_)
    refine Tri.block ?_
    refine Tri.lp (fun q ρ hl => ∃ i : Nat, q = 4 - i ∧ i ≤ 4 ∧ hl = [.arr 1 (rI .u16 ((splitW v).take i ++ List.replicate (4 - i) 0))] ∧ keepE ρ [0, 1, 2, 8, 30, 31, 32] = some [(0, vI .u64 v), (1, vI .i64 4), (2, vB false), (8, vC (.sl 0 0 4)), (30, vC (.sl 0 0 4)), (31, vI .i64 4), (32, vI .i64 i)]) 4 ⟨0, by omega, by omega, rfl, keep_of rfl rfl⟩ ?_
    rintro q ρ hl' ⟨i, rfl, hi, rfl, hkk⟩
    refine Tri.keep _ hkk ?_
    by_cases h : i < 4
    · have hs := shift_ok h
      have ha := splitW_at hv h
      have h4 : i = 0 ∨ i = 1 ∨ i = 2 ∨ i = 3 := by omega
      refine Tri.seq (Tri.go [] rfl trivial (Tri.seq (Tri.go [.b 33 true] rfl ⟨decide_eq_true (by omega), trivial⟩ ?_)))
      refine Tri.seq (Tri.block (Tri.seq (Tri.go [] rfl trivial ?_)))
      refine Tri.tree (.f [] hs .nil) rfl ?_
      refine ⟨trivial, by simp [leVs, leP, leE, leC], by unfold shW; omega, trivial, ⟨by omega, by omega, rfl⟩, ⟨rfl, by rcases h4 with rfl | rfl | rfl | rfl <;> simp [splitW], by omega⟩, ?_⟩
      refine Tri.go [] rfl ⟨by omega, trivial⟩ (again (4 - (i + 1)) (by omega) ⟨i + 1, by omega, by omega, ?_, keep_of rfl (by simp)⟩)
      rw [wu16, ha]
      rcases h4 with rfl | rfl | rfl | rfl <;> simp [splitW, rI, putAt] <;> rfl
    · have : i = 4 := by omega
      subst this
      exact Tri.seq (Tri.go [] rfl trivial (Tri.seq (Tri.go [.b 33 false] rfl ⟨decide_eq_false (by omega), trivial⟩ (And.intro (by simp [splitW]) (keep_of rfl rfl)))))
  rintro ρ hl' ⟨rfl, hkk⟩
  refine Tri.keep _ hkk ?_
  refine Tri.treeR (.a (.call [] [0] .u []) .nil) rfl ?_
  simp [leP, leE, leEs, leC, splitW, rI]
  exact .nil
abbrev vSta (a b c d : Int) : V := .e (.agg [.t (.int .i64 a), .t (.int .i64 b), .t (.int .i64 c), .t (.int .u64 d)])
/-- The registers of the window. -/
def regsW (a b c d : Int) : List Int := [0, a % 65536, b % 65536, c % 65536] ++ splitW d
theorem regs_ok {a b c d : Int} (hd : 0 ≤ d) : FnOk Tryz.prog 174 [vSta a b c d] [] (.e (.agg ((regsW a b c d).map fun x => .t (.int .u16 x)))) [] := by
  have hs := split_ok hd
  refine FnOk.start t174 rfl rfl rfl ?_
  refine Tri.seq (Tri.go [] rfl trivial ?_)
  refine Tri.seq (Tri.go [] rfl trivial ?_)
  refine Tri.seq (Tri.tree .nil rfl ⟨trivial, trivial, trivial, by omega, by omega, by omega, ?_⟩)
  refine Tri.seq (Tri.tree (.f [] hs .nil) rfl ⟨trivial, by simp [leVs, leP, leE, leC], ?_⟩)
  refine Tri.arrP 3 2 [.int .u16 0, .int .u16 (IntKind.u16.wrap a), .int .u16 (IntKind.u16.wrap b), .int .u16 (IntKind.u16.wrap c), .int .u16 0, .int .u16 0, .int .u16 0, .int .u16 0] (Nat.zero_le _) (by show 8 ≤ maxLen; decide) rfl rfl ?_
  refine Tri.mid (fun ρ hl => hl = [.box [.t (.int .i64 a), .t (.int .i64 b), .t (.int .i64 c), .t (.int .u64 d)], .box [.t (.int .u16 0), .t (.int .u16 0), .t (.int .u16 0), .t (.int .u16 0), .t (.int .u16 0), .t (.int .u16 0), .t (.int .u16 0), .t (.int .u16 0)], .dead, .arr 1 (((regsW a b c d).map fun x => D.int .u16 x).map fun d => [d])] ∧ keepE ρ [2, 3] = some [(2, vC (.ptr 1 0)), (3, vC (.pa 3 8))]) ?_ ?_
  · refine Tri.tree .nil rfl ⟨⟨rfl, rfl, rfl, by simp, by simp, by simp⟩, ⟨.inr rfl, rfl, by simp, by simp [splitW]⟩, ?_, keep_of rfl rfl⟩
    simp [regsW, splitW, rI, wu16]
  rintro ρ hl' ⟨rfl, hkk⟩
  refine Tri.keep _ hkk ?_
  refine Tri.arrB 3 3 ((regsW a b c d).map fun x => D.int .u16 x) (Nat.zero_le _) rfl rfl ?_
  refine Tri.treeR (.a (.call [] [] .u []) .nil) rfl ?_
  simp [regsW, splitW, leP, leE, leL, leC, putAt]
  exact .nil
def readW (a b c d fr to : Int) : List Int := if fr < 0 ∨ 8 < to ∨ to ≤ fr then [] else ((regsW a b c d).drop fr.toNat).take (to - fr).toNat
theorem regsW_len (a b c d : Int) : (regsW a b c d).length = 8 := by simp [regsW, splitW]
theorem ctrlRead_ok {a b c d fr to : Int} (hd : 0 ≤ d) : FnOk Tryz.prog 131 [vSta a b c d, vI .i64 fr, vI .i64 to] [] (vWd (readW a b c d fr to)) [] := by
  have hr := regs_ok (a := a) (b := b) (c := c) hd
  unfold readW
  by_cases h1 : fr < 0
  · rw [if_pos (.inl h1)]
    exact FnOk.tree t131 (.a (.b 10 true) .nil) rfl rfl rfl rfl ⟨by simpa using h1, by simp [leP, leE, leC]⟩
  by_cases h2 : 8 < to
  · rw [if_pos (.inr (.inl h2))]
    exact FnOk.tree t131 (.a (.b 10 false) (.a (.b 14 true) .nil)) rfl rfl rfl rfl ⟨by simpa using h1, by simpa using h2, by simp [leP, leE, leC]⟩
  by_cases h3 : to ≤ fr
  · rw [if_pos (.inr (.inr h3))]
    exact FnOk.tree t131 (.a (.b 10 false) (.a (.b 14 false) (.a (.b 18 true) .nil))) rfl rfl rfl rfl ⟨by simpa using h1, by simpa using h2, by simpa using h3, by simp [leP, leE, leC]⟩
  rw [if_neg (by omega)]
  have hln := regsW_len a b c d
  have hc := cloneW_ok (l := ((regsW a b c d).drop fr.toNat).take (to - fr).toNat) (by simp; omega)
  refine FnOk.start t131 rfl rfl rfl ?_
  refine Tri.seq (Tri.go [] rfl trivial ?_)
  refine Tri.seq (Tri.tree (.a (.b 10 false) (.a (.b 14 false) (.a (.b 18 false) .nil))) rfl ⟨by simpa using h1, by simpa using h2, by simpa using h3, ?_⟩)
  refine Tri.seq (Tri.tree (.f [] hr .nil) rfl ⟨trivial, by simp [leVs, leP, leE, leL, leC], ?_⟩)
  refine Tri.arrP 7 1 ((regsW a b c d).map fun x => .int .u16 x) (Nat.zero_le _) (by simp [hln]; decide) rfl rfl ?_
  refine Tri.seq (Tri.tree (.f [2] hc .nil) rfl ⟨⟨rfl, by simp [hln], by simp [hln], by simp; omega, by simp; omega, by simp; omega⟩, ⟨by simp [hln]; omega, trivial⟩, ?_, ?_⟩)
  · simp [leVs, leP, leE, leC, hln, rI, List.map_drop, List.map_take]
    refine ⟨by omega, .inr ?_⟩
    rw [show (to.toNat - fr.toNat) = (to - fr).toNat by omega]
    rfl
  · exact Tri.treeR (.a (.call [] [] .u []) .nil) rfl ⟨trivial, .nil, leP_refl _⟩
/-- What a request writes to the window's first register. -/
def orderR (a : Ask) (w : Int) : Int × Bool := if a.at_ ≠ w then (0, false) else if a.fn = 6 then (a.val, true) else if a.fn = 16 ∧ a.n = 1 ∧ a.words.length = 1 then (a.words.getD 0 0, true) else (0, false)
abbrev vIB (r : Int × Bool) : V := .tup [.c (.t (.int .i64 r.1)), .c (.t (.bool r.2))]
theorem order_ok' {a : Ask} (hf : a.Fit) {w : Int} : FnOk Tryz.prog 132 [a.v, vI .i64 w] [] (vIB (orderR a w)) [] := by
  have hv := hf.val
  have hwd := hf.wrd
  unfold orderR
  by_cases h1 : a.at_ = w
  · rw [if_neg (by simpa using h1)]
    by_cases h2 : a.fn = 6
    · rw [if_pos h2]
      exact FnOk.tree t132 (.a (.b 6 false) (.a (.b 11 true) .nil)) rfl rfl rfl rfl ⟨by simpa using h1, by simpa using h2, by simp [leP, leE, leEs, leC]; omega⟩
    · rw [if_neg h2]
      by_cases h3 : a.fn = 16
      · by_cases h4 : a.n = 1
        · by_cases h5 : a.words.length = 1
          · rw [if_pos ⟨h3, h4, h5⟩]
            have hg := rI_get (k := .u16) (l := a.words) (i := 0) (by omega)
            have hb := hwd (a.words.getD 0 0) (by simp [List.getD_eq_getElem?_getD, h5])
            refine FnOk.tree t132 (.a (.b 6 false) (.a (.b 11 false) (.a (.b 22 true) (.a (.b 27 true) (.a (.b 18 true) (.a (.at [.int .u16 (a.words.getD 0 0)]) .nil)))))) rfl rfl rfl rfl ?_
            refine ⟨by simpa using h1, by simpa using h2, by simpa using h3, by simpa using h4, by simp [h5], ⟨by omega, rfl, hg⟩, ?_⟩
            rw [List.getD_eq_getElem?_getD] at hb
            simp [leP, leE, leEs, leC]; omega
          · rw [if_neg (by simp [h5])]
            exact FnOk.tree t132 (.a (.b 6 false) (.a (.b 11 false) (.a (.b 22 true) (.a (.b 27 true) (.a (.b 18 false) .nil))))) rfl rfl rfl rfl ⟨by simpa using h1, by simpa using h2, by simpa using h3, by simpa using h4, by simp; omega, by simp [leP, leE, leEs, leC]⟩
        · rw [if_neg (by simp [h4])]
          exact FnOk.tree t132 (.a (.b 6 false) (.a (.b 11 false) (.a (.b 22 true) (.a (.b 27 false) .nil)))) rfl rfl rfl rfl ⟨by simpa using h1, by simpa using h2, by simpa using h3, by simpa using h4, by simp [leP, leE, leEs, leC]⟩
      · rw [if_neg (by simp [h3])]
        exact FnOk.tree t132 (.a (.b 6 false) (.a (.b 11 false) (.a (.b 22 false) (.a (.b 27 false) .nil)))) rfl rfl rfl rfl ⟨by simpa using h1, by simpa using h2, by simpa using h3, by simp, by simp [leP, leE, leEs, leC]⟩
  · rw [if_pos h1]
    exact FnOk.tree t132 (.a (.b 6 true) .nil) rfl rfl rfl rfl ⟨by simpa using h1, by simp [leP, leE, leEs, leC]⟩
end Go.Proofs.YthddlkhfkncgpaaGreat
