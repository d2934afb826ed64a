/-
  Lists of objects that are lent; replies that are few.
-/
import Derived.Test.YtheaeddojcebjaaM43
import Derived.Test.YtheaeddojcebjaaM26a
set_option maxRecDepth 100000
set_option maxHeartbeats 4000000
set_option linter.unusedVariables false
set_option linter.unusedSimpArgs false
namespace Go.Proofs.Ytheaeddojcebjaa
open Go.RowKit

abbrev oMark : Obj := (7, ⟨#[109]⟩)
abbrev oZero : Obj := (0, ⟨#[]⟩)
def lentO (l : List Obj) (k : Nat) : List Obj := l ++ (List.replicate k oMark ++ List.replicate (3 - k) oZero)
theorem lentO_len (l : List Obj) {k : Nat} (h : k ≤ 3) : (lentO l k).length = l.length + 3 := by simp [lentO]; omega
theorem lentO_set (l : List Obj) {k : Nat} (h : k < 3) : (lentO l k).set (l.length + k) oMark = lentO l (k + 1) := by
  unfold lentO
  rw [List.set_append_right _ _ (by omega), show l.length + k - l.length = k by omega, List.set_append_right _ _ (by simp)]
  congr 1
  rw [show 3 - k = (2 - k) + 1 by omega, List.replicate_succ]
  simp only [List.length_replicate, Nat.sub_self, List.set_cons_zero]
  rw [List.replicate_succ', List.append_assoc, show 3 - (k + 1) = 2 - k by omega]
  rfl
theorem oRows_app (l m : List Obj) : oRows l ++ oRows m = oRows (l ++ m) := by simp [oRows]
theorem oRows_take (l : List Obj) (n : Nat) : (oRows l).take n = oRows (l.take n) := by simp [oRows]
theorem oRows_drop (l : List Obj) (n : Nat) : (oRows l).drop n = oRows (l.drop n) := by simp [oRows]
theorem oRows_rep (n : Nat) : List.replicate n [D.int .i64 0, D.str ⟨#[]⟩] = oRows (List.replicate n oZero) := by simp [oRows]
theorem oRows_set (l : List Obj) (i : Nat) (o : Obj) : (oRows l).modify i (fun r => putAt r 0 [D.int .i64 o.1, D.str o.2]) = oRows (l.set i o) := by
  unfold oRows
  induction l generalizing i with
  | nil => cases i <;> rfl
  | cons x l ih =>
    cases i with
    | zero => rfl
    | succ i => simp only [List.map_cons, List.modify_succ_cons, List.set_cons_succ, ih]
theorem lentO_mark (l : List Obj) {i : Nat} (h1 : l.length ≤ i) (h2 : i < l.length + 3) : (lentO l 3)[i]? = some oMark := by
  unfold lentO
  rw [List.getElem?_append_right h1]
  have : i - l.length < 3 := by omega
  generalize i - l.length = j at this
  match j, this with
  | 0, _ => rfl
  | 1, _ => rfl
  | 2, _ => rfl
theorem lentObjects_ok {l : List Obj} (hl : l.length ≤ 1000000) : FnOk Try.prog 26 [vD (lO l)] [] (vL 2 l.length (oRows (lentO l 3))) [] := by
  refine FnOk.start t26 rfl rfl rfl ?_
  refine Tri.seq (Tri.go [] rfl trivial ?_)
  refine Tri.seq (Tri.go [] rfl ⟨by omega, by omega, trivial⟩ ?_)
  refine Tri.seq (Tri.go [] rfl ?_ ?_)
  · simp
  have e0 : List.take 0 (List.replicate ((l.length : Int) + 3).toNat [D.int .i64 0, D.str ⟨#[]⟩]) ++ (oRows l).take (min l.length ((l.length : Int) + 3).toNat) ++ List.drop (0 + min l.length ((l.length : Int) + 3).toNat) (List.replicate ((l.length : Int) + 3).toNat [D.int .i64 0, D.str ⟨#[]⟩]) = oRows (lentO l 0) := by
    rw [show ((l.length : Int) + 3).toNat = l.length + 3 by omega, show min l.length (l.length + 3) = l.length by omega, oRows_rep, oRows_take, oRows_take, oRows_drop, oRows_app, oRows_app]
    simp [lentO]
  refine Tri.seq (Tri.seq (Tri.go [] rfl trivial ?_))
  refine Tri.block ?_
  refine Tri.lp (fun q ρ hl => ∃ k, q = 3 - k ∧ k ≤ 3 ∧ hl = [.arr 2 (oRows (lentO l k))] ∧ keepE ρ [0, 3, 4] = some [(0, vD (lO l)), (3, vC (.sl 0 0 (l.length + 3))), (4, vI .i64 (l.length + k : Nat))]) 3 ⟨0, by omega, by omega, ?_, keep_of rfl ?_⟩ ?_
  · exact congrArg (fun x => [Ob.arr 2 x]) e0
  · rw [show ((l.length : Int) + 3).toNat = l.length + 3 by omega]; rfl
  rintro q ρ hl' ⟨k, rfl, hk3, rfl, hk⟩
  refine Tri.keep _ hk ?_
  by_cases h : k < 3
  · refine Tri.go [.b 17 true] rfl ?_ (again (3 - (k + 1)) (by omega) ⟨k + 1, rfl, by omega, ?_, keep_of rfl (by simp; omega)⟩)
    · simp [lentO_len _ hk3]; omega
    · simp only [Nat.zero_add, Int.toNat_natCast]
      rw [← lentO_set _ h]
      exact congrArg (fun x => [Ob.arr 2 x]) (oRows_set (lentO l k) (l.length + k) oMark)
  · refine Tri.go [.b 17 false] rfl ⟨decide_eq_false (by omega), trivial⟩ (outQ ?_)
    have hk' : k = 3 := by omega
    subst hk'
    refine Tri.treeR (.a (.call [] [0] .u []) .nil) rfl ?_
    simp [leP, leE, leC, lentO_len, leOs_nil7]
theorem staysObjects_ok {l : List Obj} (hl : l.length ≤ 1000000) : FnOk Try.prog 29 [vL 2 l.length (oRows (lentO l 3)), vD (lO l)] [] (vB true) [] := by
  refine FnOk.start t29 rfl rfl rfl ?_
  refine Tri.seq (Tri.go [] rfl trivial ?_)
  refine Tri.seq (Tri.go [.b 11 false] rfl ⟨by simp, trivial⟩ ?_)
  have hll := lentO_len l (k := 3) (by omega)
  refine Tri.seq (Tri.go [] rfl ⟨by omega, by simp [hll]; omega, trivial⟩ ?_)
  refine Tri.seq (Tri.seq (Tri.go [] rfl trivial ?_))
  refine Tri.block ?_
  refine Tri.lp (fun q ρ hl => ∃ i, q = l.length + 3 - i ∧ i ≤ l.length + 3 ∧ hl = [] ∧ keepE ρ [1, 5, 6] = some [(1, vD (lO l)), (5, vL 2 (l.length + 3) (oRows (lentO l 3))), (6, vI .i64 i)]) (l.length + 3) ⟨0, by omega, by omega, rfl, keep_of rfl ?_⟩ ?_
  · have e : ((some ((l.length : Int) + 3)).getD l.length).toNat - ((none : Option Int).getD 0).toNat = l.length + 3 := by simp; omega
    rw [e]
    simp [oRows_take, List.take_of_length_le, hll]
  rintro q ρ hl' ⟨i, rfl, hi, rfl, hk⟩
  refine Tri.keep _ hk ?_
  by_cases h : i < l.length + 3
  · by_cases h2 : i < l.length
    · have g2 := oRows_get h2
      have g1 := oRows_get (l := lentO l 3) (i := i) (by omega)
      have e : (lentO l 3)[i]'(by omega) = l[i] := by unfold lentO; rw [List.getElem_append_left]
      rw [e] at g1
      generalize l[i] = o at g1 g2
      obtain ⟨o1, o2⟩ := o
      refine Tri.seq (Tri.tree (.a (.b 20 true) .nil) rfl ⟨by simp; omega, ?_⟩)
      refine Tri.seq (Tri.block (Tri.tree (.a (.b 27 true) (.a (.at [.int .i64 o1, .str o2]) (.a (.at [.int .i64 o1, .str o2]) (.a (.b 38 false) (.a (.b 43 false) (.a (.b 51 false) .nil)))))) rfl ?_))
      refine ⟨decide_eq_true (by omega), ⟨by omega, rfl, g1⟩, by simp, ⟨by omega, rfl, g2⟩, by simp, trivial, by simp, decide_eq_false (by omega), rfl, ?_⟩
      refine Tri.let [] [] [1, 5, 6] rfl trivial ?_
      refine Tri.go [] rfl ⟨by omega, trivial⟩ (again (l.length + 3 - (i + 1)) (by omega) ⟨i + 1, rfl, by omega, rfl, keep_of rfl (by simp)⟩)
    · have g3 := lentO_mark l (i := i) (by omega) (by omega)
      have g1 : (oRows (lentO l 3))[i]? = some [.int .i64 7, .str ⟨#[109]⟩] := by
        simp only [oRows, List.getElem?_map, g3, Option.map_some]
      refine Tri.seq (Tri.tree (.a (.b 20 true) .nil) rfl ⟨by simp; omega, ?_⟩)
      refine Tri.seq (Tri.block (Tri.tree (.a (.b 27 false) (.a (.b 43 true) (.a (.at [.int .i64 7, .str ⟨#[109]⟩]) (.a (.b 51 false) .nil)))) rfl ?_))
      refine ⟨decide_eq_false (by omega), decide_eq_true (by omega), ⟨by omega, rfl, g1⟩, by simp, trivial, by simp, ?_⟩
      refine Tri.let [] [] [1, 5, 6] rfl trivial ?_
      refine Tri.go [] rfl ⟨by omega, trivial⟩ (again (l.length + 3 - (i + 1)) (by omega) ⟨i + 1, rfl, by omega, rfl, keep_of rfl (by simp)⟩)
  · refine Tri.go [.b 20 false] rfl ⟨decide_eq_false (by omega), trivial⟩ (outQ ?_)
    exact Tri.treeR .nil rfl (by simp [leP, leE, leC])
/-- Are the texts of at most 300 bytes? -/
def few6B (l : List Obj) : Bool := l.all fun o => decide (o.2.size ≤ 300)
theorem few6_ok {a : Tell} (hf : a.objs.length ≤ 9223372036854775807) : FnOk Try.prog 51 [a.v] [] (vB (few6B a.objs && (decide (a.bits.length ≤ 2100) && (decide (a.words.length ≤ 200) && decide (a.objs.length ≤ 130))))) [] := by
  refine FnOk.start t51 rfl rfl rfl ?_
  refine Tri.seq (Tri.go [] rfl (by simp) ?_)
  refine Tri.seq (Tri.seq (Tri.go [] rfl trivial ?_))
  refine Tri.block ?_
  refine Tri.lp (fun m ρ hl => ∃ i, m = a.objs.length - i ∧ i ≤ a.objs.length ∧ few6B a.objs = few6B (a.objs.drop i) ∧ hl = [.box a.cs] ∧ keepE ρ [1, 3] = some [(1, vC (.ptr 0 0)), (3, vI .i64 i)]) a.objs.length ⟨0, by omega, by omega, rfl, rfl, keep_of rfl rfl⟩ ?_
  rintro m ρ hl' ⟨i, rfl, hi, he, rfl, hkk⟩
  refine Tri.keep _ hkk ?_
  by_cases h : i < a.objs.length
  · have hg := oRows_get h
    have hd : a.objs.drop i = a.objs[i] :: a.objs.drop (i + 1) := List.drop_eq_getElem_cons h
    rw [hd] at he
    generalize a.objs[i] = o at *
    obtain ⟨o1, o2⟩ := o
    simp only at hg
    refine Tri.seq (Tri.tree (.a (.b 8 true) .nil) rfl ⟨by simp; omega, ?_⟩)
    by_cases h3 : 300 < o2.size
    · have : few6B a.objs = false := by rw [he]; simp [few6B]; omega
      rw [this]
      refine Tri.seq (Tri.block (Tri.tree (.a (.at [.int .i64 o1, .str o2]) (.a (.b 18 true) .nil)) rfl ?_))
      exact ⟨⟨by omega, rfl, hg⟩, decide_eq_true (by omega), RetQ.of [] [] rfl trivial (.refl _) rfl⟩
    · have : few6B a.objs = few6B (a.objs.drop (i + 1)) := by rw [he]; simp [few6B]; omega
      refine Tri.seq (Tri.block (Tri.tree (.a (.at [.int .i64 o1, .str o2]) (.a (.b 18 false) .nil)) rfl ?_))
      refine ⟨⟨by omega, rfl, hg⟩, decide_eq_false (by omega), ?_⟩
      refine Tri.let [0] [] [1, 3] rfl trivial ?_
      refine Tri.go [] rfl ⟨by omega, trivial⟩ (again (a.objs.length - (i + 1)) (by omega) ⟨i + 1, rfl, by omega, this, rfl, keep_of rfl (by simp)⟩)
  · have : a.objs.drop i = [] := List.drop_eq_nil_of_le (by omega)
    rw [this] at he
    have he : few6B a.objs = true := he
    rw [he]
    refine Tri.seq (Tri.tree (.a (.b 8 false) .nil) rfl ⟨by simp; omega, ?_⟩)
    refine Tri.treeR (.br 23 (.br 29 .nil .nil) .nil) rfl ?_
    simp +contextual [leP, leE, leC]
    all_goals (repeat' (first | omega | (intro _) | apply And.intro | apply Iff.intro))
/-- The bytes of a reply, and what is wrong with it. -/
def tellBR (a : Tell) : List Int × Int := if a.right then (tellB a, 0) else ([], 1)
theorem tellBR_ok {a : Tell} (hf : a.Fit) : FnOk Try.prog 43 [a.v] [] (bytR (tellBR a).1 (tellBR a).2) [] := by
  unfold tellBR
  cases h : a.right with
  | true =>
    by_cases he : a.exc = 0
    · by_cases h43 : a.fn = 43
      · exact tellBytes43_ok hf h he h43
      · exact tellBytes_ok hf h he h43
    · exact tellBytesExc_ok hf h he
  | false => exact tellBytesNo_ok hf h
theorem rTellBR_ok {a : Tell} (hf : a.Fit) : FnOk Try.prog 55 [a.v] [] (bytR (tellBR a).1 (tellBR a).2) [] := by
  unfold tellBR
  cases h : a.right with
  | true =>
    by_cases he : a.exc = 0
    · by_cases h43 : a.fn = 43
      · exact rTellBytes43_ok hf h he h43
      · exact rTellBytes_ok hf h he h43
    · exact rTellBytesExc_ok hf h he
  | false => exact rTellBytesNo_ok hf h
theorem tellTells_ok {a : Tell} (hm : a.objs.length ≤ 9223372036854775807) (hf : a.bits.length ≤ 2100 → a.words.length ≤ 200 → a.objs.length ≤ 130 → few6B a.objs = true → a.Fit) : FnOk Try.prog 14 [a.v] [] (vB true) [] := by
  have haw := awake6_ok
  have hw := few6_ok hm
  generalize hF : (few6B a.objs && (decide (a.bits.length ≤ 2100) && (decide (a.words.length ≤ 200) && decide (a.objs.length ≤ 130)))) = F at hw
  cases F with
  | false =>
    refine FnOk.tree t14 (.f [] hw (.f [] haw .nil)) rfl rfl rfl rfl ?_
    simp [leVs, leP, leE, leL, leC]
  | true =>
  simp only [Bool.and_eq_true, decide_eq_true_eq] at hF
  obtain ⟨h1, h2, h3, h4⟩ := hF
  have hf := hf h2 h3 h4 h1
  have hlb := lentBits_ok (l := a.bits) (by omega)
  have hlw := lentWords_ok (l := a.words) (by omega)
  have hlo := lentObjects_ok (l := a.objs) (by omega)
  have q1 := tellBR_ok hf
  have q2 := rTellBR_ok hf
  have q3 := tRight_ok hf
  have q4 := tells6_ok hf
  have q5 := staysBits_ok (l := a.bits) (by omega)
  have q6 := staysWords_ok (l := a.words) (by omega)
  have q7 := staysObjects_ok (l := a.objs) (by omega)
  have e1 : (rF (lentF a.bits 3)).take a.bits.length = rF a.bits := by rw [rF_take]; simp [lentF]
  have e2 : (rI .u16 (lent 42405 a.words 3)).take a.words.length = rI .u16 a.words := by rw [rI_take]; simp [lent]
  have e4 : (oRows (lentO a.objs 3)).take a.objs.length = oRows a.objs := by rw [oRows_take]; simp [lentO]
  refine FnOk.tree t14 (.f [] hw (.f [] haw (.f [] hlb (.f [] hlw (.f [] hlo (.f [] q1 (.f [] q2 (.f [] q3 (.f [] q4 (.a (.b 44 true) (.a (.b 49 true) (.a (.tx (tellBR a).1) (.a (.tx (tellBR a).1) (.a (.b 56 true) (.f [] q5 (.f [] q6 (.f [] q7 .nil))))))))))))))))) rfl rfl rfl rfl ?_
  have e3 : (rI .u8 (tellBR a).1).take (tellBR a).1.length = (tellBR a).1.map (fun n => [D.int .u8 n]) := by rw [rI_take]; simp [rI]
  simp [leVs, leP, leE, leL, leC, e1, e2, e3, e4]
end Go.Proofs.Ytheaeddojcebjaa
