/-
  Replies: as values; those with just the fields of their function; when they may be.
-/
import Derived.Test.YthddlkhfkncgpaaGreatM17a
import Derived.Test.YthddlkhfkncgpaaGreatAf6
set_option maxRecDepth 100000
set_option maxHeartbeats 4000000
set_option linter.unusedVariables false
set_option linter.unusedSimpArgs false
namespace Go.Proofs.YthddlkhfkncgpaaGreat
open Go.RowKit

/-- An object: its number, its text. -/
abbrev Obj := Int × ByteArray
def oRows (l : List Obj) : List (List D) := l.map fun o => [.int .i64 o.1, .str o.2]
abbrev lO (l : List Obj) : D := .ls 2 l.length (oRows l)
@[simp] theorem oRows_nil : oRows [] = [] := rfl
@[simp] theorem oRows_len (l : List Obj) : (oRows l).length = l.length := by simp [oRows]
theorem oRows_get {l : List Obj} {i : Nat} (h : i < l.length) : (oRows l)[i]? = some [.int .i64 l[i].1, .str l[i].2] := by simp [oRows, h]
/-- A reply. -/
structure Tell where
  fn : Int := 0
  exc : Int := 0
  bits : List Bool := []
  words : List Int := []
  at_ : Int := 0
  n : Int := 0
  val : Int := 0
  and_ : Int := 0
  or_ : Int := 0
  code : Int := 0
  level : Int := 0
  more : Bool := false
  next : Int := 0
  objs : List Obj := []
abbrev Tell.cs (a : Tell) : List C := [.t (.int .i64 a.fn), .t (.int .i64 a.exc), .t (lF a.bits), .t (lI .u16 a.words), .t (.int .i64 a.at_), .t (.int .i64 a.n), .t (.int .u16 a.val), .t (.int .u16 a.and_), .t (.int .u16 a.or_), .t (.int .i64 a.code), .t (.int .i64 a.level), .t (.bool a.more), .t (.int .i64 a.next), .t (lO a.objs)]
abbrev Tell.v (a : Tell) : V := .e (.agg a.cs)
/-- Just the fields of the function. -/
def Tell.only (a : Tell) : Tell :=
  if a.fn = 1 ∨ a.fn = 2 then { fn := a.fn, bits := a.bits }
  else if a.fn = 3 ∨ a.fn = 4 ∨ a.fn = 23 then { fn := a.fn, words := a.words }
  else if a.fn = 5 ∨ a.fn = 6 then { fn := a.fn, at_ := a.at_, val := a.val }
  else if a.fn = 15 ∨ a.fn = 16 then { fn := a.fn, at_ := a.at_, n := a.n }
  else if a.fn = 22 then { fn := a.fn, at_ := a.at_, and_ := a.and_, or_ := a.or_ }
  else if a.fn = 43 then { fn := a.fn, code := a.code, level := a.level, more := a.more, next := a.next, objs := a.objs }
  else { fn := a.fn }
structure Tell.Fit (a : Tell) : Prop where
  fn : b64 a.fn
  exc : b64 a.exc
  bits : a.bits.length ≤ 1000000000000
  words : a.words.length ≤ 1000000000000
  wrd : Wrd a.words
  at_ : b64 a.at_
  n : b64 a.n
  val : 0 ≤ a.val ∧ a.val ≤ 65535
  and_ : 0 ≤ a.and_ ∧ a.and_ ≤ 65535
  or_ : 0 ≤ a.or_ ∧ a.or_ ≤ 65535
  code : b64 a.code
  level : b64 a.level
  next : b64 a.next
  objs : a.objs.length ≤ 1000000000000
  oid : ∀ o ∈ a.objs, b64 o.1 ∧ o.2.size ≤ 1000000
def one (b : Bool) : Int := if b then 1 else 0
theorem one_ok (b : Bool) : FnOk Tryz.prog 163 [vB b] [] (vI .i64 (one b)) [] := by
  cases b
  · exact FnOk.tree t163 .nil rfl rfl rfl rfl (by simp [leP, leE, leC, one])
  · exact FnOk.tree t163 .nil rfl rfl rfl rfl (by simp [leP, leE, leC, one])
/-- The numbers of a reply, and how long its lists are. -/
abbrev Tell.nums (a : Tell) : List C := [.t (.int .i64 a.at_), .t (.int .i64 a.n), .t (.int .i64 a.val), .t (.int .i64 a.and_), .t (.int .i64 a.or_), .t (.int .i64 a.code), .t (.int .i64 a.level), .t (.int .i64 (one a.more)), .t (.int .i64 a.next), .t (.int .i64 a.bits.length), .t (.int .i64 a.words.length), .t (.int .i64 a.objs.length)]
theorem tNumbers_ok {a : Tell} (h : a.Fit) : FnOk Tryz.prog 203 [a.v] [] (.e (.agg a.nums)) [] := by
  have h1 := h.val
  have h2 := h.and_
  have h3 := h.or_
  have h4 := one_ok a.more
  refine FnOk.tree t203 (.f [] h4 .nil) rfl rfl rfl rfl ?_
  simp [leVs, leP, leE, leL, leC, putAt_length]
  omega
theorem isByte_ok (n : Int) : FnOk Tryz.prog 202 [vI .i64 n] [] (vB (bytefulB n)) [] := by
  refine FnOk.tree t202 (.br 5 .nil .nil) rfl rfl rfl rfl ?_
  simp +contextual [leP, leE, leC, bytefulB]
  all_goals (repeat (first | omega | (intro _) | apply And.intro | apply Iff.intro))
theorem tCounts_ok (n m : Int) : FnOk Tryz.prog 205 [vI .i64 n, vI .i64 m] [] (vB (countsB n m)) [] := by
  refine FnOk.tree t205 (.br 7 .nil .nil) rfl rfl rfl rfl ?_
  simp +contextual [leP, leE, leC, countsB]
  all_goals (repeat (first | omega | (intro _) | apply And.intro | apply Iff.intro))
theorem exception_ok (n : Int) : FnOk Tryz.prog 201 [vI .i64 n] [] (vB (failingB n)) [] := by
  refine FnOk.tree t201 (.br 4 .nil (.br 4 .nil (.br 4 .nil (.br 4 .nil (.br 4 .nil .nil))))) rfl rfl rfl rfl ?_
  simp +contextual [leP, leE, leC, failingB]
  all_goals (repeat (first | omega | (intro _) | apply And.intro | apply Iff.intro))
theorem tOnly_ok (x : Tell) : FnOk Tryz.prog 204 [x.v] [] x.only.v [] := by
  obtain ⟨fn, exc, bs, ws, at_, n, vl, an, og, cd, lv, mo, nx, os⟩ := x
  by_cases h1 : fn = 1
  · subst h1
    exact FnOk.tree t204 .nil rfl rfl rfl rfl (by simp [leP, leE, leL, leC, Tell.only])
  by_cases h2 : fn = 2
  · subst h2
    exact FnOk.tree t204 .nil rfl rfl rfl rfl (by simp [leP, leE, leL, leC, Tell.only])
  by_cases h3 : fn = 3
  · subst h3
    exact FnOk.tree t204 .nil rfl rfl rfl rfl (by simp [leP, leE, leL, leC, Tell.only])
  by_cases h4 : fn = 4
  · subst h4
    exact FnOk.tree t204 .nil rfl rfl rfl rfl (by simp [leP, leE, leL, leC, Tell.only])
  by_cases h5 : fn = 5
  · subst h5
    exact FnOk.tree t204 .nil rfl rfl rfl rfl (by simp [leP, leE, leL, leC, Tell.only])
  by_cases h6 : fn = 6
  · subst h6
    exact FnOk.tree t204 .nil rfl rfl rfl rfl (by simp [leP, leE, leL, leC, Tell.only])
  by_cases h15 : fn = 15
  · subst h15
    exact FnOk.tree t204 .nil rfl rfl rfl rfl (by simp [leP, leE, leL, leC, Tell.only])
  by_cases h16 : fn = 16
  · subst h16
    exact FnOk.tree t204 .nil rfl rfl rfl rfl (by simp [leP, leE, leL, leC, Tell.only])
  by_cases h22 : fn = 22
  · subst h22
    exact FnOk.tree t204 .nil rfl rfl rfl rfl (by simp [leP, leE, leL, leC, Tell.only])
  by_cases h23 : fn = 23
  · subst h23
    exact FnOk.tree t204 .nil rfl rfl rfl rfl (by simp [leP, leE, leL, leC, Tell.only])
  by_cases h43 : fn = 43
  · subst h43
    exact FnOk.tree t204 .nil rfl rfl rfl rfl (by simp [leP, leE, leL, leC, Tell.only])
  have e : (Tell.mk fn exc bs ws at_ n vl an og cd lv mo nx os).only = { fn := fn } := by simp [Tell.only, *]
  rw [e]
  exact FnOk.tree t204 (.a (.b 9 false) (.a (.b 9 false) (.a (.b 15 false) (.a (.b 15 false) (.a (.b 15 false) (.a (.b 22 false) (.a (.b 22 false) (.a (.b 31 false) (.a (.b 31 false) (.a (.b 40 false) (.a (.b 51 false) .nil))))))))))) rfl rfl rfl rfl (by simp [leP, leE, leL, leC, *])
/-- May these objects stand in a reply, behind n bytes? -/
def objsOk : Int → List Obj → Bool
  | _, [] => true
  | n, o :: l => bytefulB o.1 && decide (n + 2 + o.2.size ≤ 253) && objsOk (n + 2 + o.2.size) l
theorem objects_ok {l : List Obj} (hl : l.length ≤ 1000000000000) (ho : ∀ o ∈ l, b64 o.1 ∧ o.2.size ≤ 1000000) : FnOk Tryz.prog 206 [vD (lO l)] [] (vB (objsOk 7 l)) [] := by
  refine FnOk.start t206 rfl rfl rfl ?_
  refine Tri.seq (Tri.go [] rfl trivial ?_)
  refine Tri.seq (Tri.go [] rfl trivial ?_)
  refine Tri.seq (Tri.seq (Tri.go [] rfl trivial ?_))
  refine Tri.block ?_
  refine Tri.lp (fun q ρ hl => ∃ i n, q = l.length - i ∧ i ≤ l.length ∧ (0 ≤ n ∧ n ≤ 253) ∧ objsOk 7 l = objsOk n (l.drop i) ∧ hl = [] ∧ keepE ρ [3, 6, 7, 8] = some [(3, vI .i64 n), (6, vD (lO l)), (7, vI .i64 l.length), (8, vI .i64 i)]) l.length ⟨0, 7, by omega, by omega, by omega, rfl, rfl, keep_of rfl (by simp)⟩ ?_
  rintro q ρ hl' ⟨i, n, rfl, hi, hn, he, rfl, hkk⟩
  refine Tri.keep _ hkk ?_
  by_cases h : i < l.length
  · have hg := oRows_get h
    obtain ⟨ho1, ho2⟩ := ho l[i] (List.getElem_mem h)
    have hd : l.drop i = l[i] :: l.drop (i + 1) := List.drop_eq_getElem_cons h
    rw [hd] at he
    have hb := isByte_ok l[i].1
    simp only [objsOk] at he
    generalize l[i] = o at *
    obtain ⟨o1, o2⟩ := o
    simp only at he hb ho1 ho2 hg
    refine Tri.seq (Tri.go [] rfl trivial ?_)
    refine Tri.seq (Tri.go [.b 9 true] rfl ⟨by simp; omega, trivial⟩ ?_)
    refine Tri.seq (Tri.block ?_)
    cases hB : bytefulB o1 with
    | false =>
      rw [hB] at hb he
      simp at he
      rw [he]
      refine Tri.tree (.a (.at [.int .i64 o1, .str o2]) (.f [] hb .nil)) rfl ?_
      refine ⟨⟨by omega, rfl, hg⟩, by simp, by omega, by omega, trivial, by simp [leVs, leP, leE, leC], ?_⟩
      exact RetQ.of [] [] rfl trivial (.refl _) rfl
    | true =>
      rw [hB] at hb he
      by_cases h3 : n + 2 + o2.size ≤ 253
      case neg =>
        simp [h3] at he
        rw [he]
        refine Tri.tree (.a (.at [.int .i64 o1, .str o2]) (.f [] hb (.a (.b 25 true) .nil))) rfl ?_
        refine ⟨⟨by omega, rfl, hg⟩, by simp, by omega, by omega, trivial, by simp [leVs, leP, leE, leC], by simp; omega, ?_⟩
        exact RetQ.of [] [] rfl trivial (.refl _) rfl
      simp [h3] at he
      refine Tri.tree (.a (.at [.int .i64 o1, .str o2]) (.f [] hb (.a (.b 25 false) .nil))) rfl ?_
      refine ⟨⟨by omega, rfl, hg⟩, by simp, by omega, by omega, trivial, by simp [leVs, leP, leE, leC], by simp; omega, ?_⟩
      refine Tri.let [] [] [3, 6, 7, 8] rfl trivial ?_
      exact Tri.go [] rfl ⟨by omega, trivial⟩ (again (l.length - (i + 1)) (by omega) ⟨i + 1, n + 2 + o2.size, rfl, by omega, by omega, he, rfl, keep_of rfl (by simp [Int.add_assoc])⟩)
  · have : l.drop i = [] := List.drop_eq_nil_of_le (by omega)
    rw [this] at he
    rw [he]
    refine Tri.go [.b 9 false] rfl ⟨by simp; omega, trivial⟩ (outQ ?_)
    exact Tri.treeR .nil rfl (by simp [leP, leE, leC, objsOk])
end Go.Proofs.YthddlkhfkncgpaaGreat
