/-
  Requests: as values; those with just the fields of their function; when they may be.
-/
import Derived.Test.YthddlkhfkncgpaaGreatM2
set_option maxRecDepth 100000
set_option maxHeartbeats 4000000
set_option linter.unusedVariables false
set_option linter.unusedSimpArgs false
namespace Go.Proofs.YthddlkhfkncgpaaGreat
open Go.RowKit

/-- A request. -/
structure Ask where
  fn : Int := 0
  at_ : Int := 0
  n : Int := 0
  val : Int := 0
  and_ : Int := 0
  or_ : Int := 0
  bits : List Bool := []
  words : List Int := []
  ra : Int := 0
  rn : Int := 0
  code : Int := 0
  obj : Int := 0
abbrev Ask.cs (a : Ask) : List C := [.t (.int .i64 a.fn), .t (.int .i64 a.at_), .t (.int .i64 a.n), .t (.int .u16 a.val), .t (.int .u16 a.and_), .t (.int .u16 a.or_), .t (lF a.bits), .t (lI .u16 a.words), .t (.int .i64 a.ra), .t (.int .i64 a.rn), .t (.int .i64 a.code), .t (.int .i64 a.obj)]
abbrev Ask.v (a : Ask) : V := .e (.agg a.cs)
/-- Just the fields of the function. -/
def Ask.only (a : Ask) : Ask :=
  if a.fn = 23 then { fn := 23, at_ := a.at_, n := a.n, words := a.words, ra := a.ra, rn := a.rn }
  else if a.fn = 16 then { fn := 16, at_ := a.at_, n := a.n, words := a.words }
  else if a.fn = 1 ∨ a.fn = 2 ∨ a.fn = 3 ∨ a.fn = 4 then { fn := a.fn, at_ := a.at_, n := a.n }
  else if a.fn = 15 then { fn := 15, at_ := a.at_, n := a.n, bits := a.bits }
  else if a.fn = 5 ∨ a.fn = 6 then { fn := a.fn, at_ := a.at_, val := a.val }
  else if a.fn = 22 then { fn := 22, at_ := a.at_, and_ := a.and_, or_ := a.or_ }
  else if a.fn = 43 then { fn := 43, code := a.code, obj := a.obj }
  else { fn := a.fn }
/-- Lists that are none, as lists without anything. -/
theorem leF : C.le (.t .nil) (.t (lF [])) := .t (.nil 1)
theorem leI : C.le (.t .nil) (.t (lI .u16 [])) := .t (.nil 1)
theorem only_ok (x : Ask) : FnOk Tryz.prog 111 [x.v] [] x.only.v [] := by
  obtain ⟨fn, a, n, vl, an, og, bs, ws, ra, rn, cd, ob⟩ := x
  by_cases h23 : fn = 23
  · subst h23
    refine FnOk.go t111 [] [] [] rfl rfl rfl rfl rfl rfl rfl (by simp) (by simp) ?_
    refine .e (.agg ?_)
    repeat (first | exact LeCs.nil | refine LeCs.cons (.refl _) ?_ | refine LeCs.cons leF ?_ | refine LeCs.cons leI ?_)
  by_cases h16 : fn = 16
  · subst h16
    refine FnOk.go t111 [] [] [] rfl rfl rfl rfl rfl rfl rfl (by simp) (by simp) ?_
    refine .e (.agg ?_)
    repeat (first | exact LeCs.nil | refine LeCs.cons (.refl _) ?_ | refine LeCs.cons leF ?_ | refine LeCs.cons leI ?_)
  by_cases h1 : fn = 1
  · subst h1
    refine FnOk.go t111 [] [] [] rfl rfl rfl rfl rfl rfl rfl (by simp) (by simp) ?_
    refine .e (.agg ?_)
    repeat (first | exact LeCs.nil | refine LeCs.cons (.refl _) ?_ | refine LeCs.cons leF ?_ | refine LeCs.cons leI ?_)
  by_cases h2 : fn = 2
  · subst h2
    refine FnOk.go t111 [] [] [] rfl rfl rfl rfl rfl rfl rfl (by simp) (by simp) ?_
    refine .e (.agg ?_)
    repeat (first | exact LeCs.nil | refine LeCs.cons (.refl _) ?_ | refine LeCs.cons leF ?_ | refine LeCs.cons leI ?_)
  by_cases h3 : fn = 3
  · subst h3
    refine FnOk.go t111 [] [] [] rfl rfl rfl rfl rfl rfl rfl (by simp) (by simp) ?_
    refine .e (.agg ?_)
    repeat (first | exact LeCs.nil | refine LeCs.cons (.refl _) ?_ | refine LeCs.cons leF ?_ | refine LeCs.cons leI ?_)
  by_cases h4 : fn = 4
  · subst h4
    refine FnOk.go t111 [] [] [] rfl rfl rfl rfl rfl rfl rfl (by simp) (by simp) ?_
    refine .e (.agg ?_)
    repeat (first | exact LeCs.nil | refine LeCs.cons (.refl _) ?_ | refine LeCs.cons leF ?_ | refine LeCs.cons leI ?_)
  by_cases h15 : fn = 15
  · subst h15
    refine FnOk.go t111 [] [] [] rfl rfl rfl rfl rfl rfl rfl (by simp) (by simp) ?_
    refine .e (.agg ?_)
    repeat (first | exact LeCs.nil | refine LeCs.cons (.refl _) ?_ | refine LeCs.cons leF ?_ | refine LeCs.cons leI ?_)
  by_cases h5 : fn = 5
  · subst h5
    refine FnOk.go t111 [] [] [] rfl rfl rfl rfl rfl rfl rfl (by simp) (by simp) ?_
    refine .e (.agg ?_)
    repeat (first | exact LeCs.nil | refine LeCs.cons (.refl _) ?_ | refine LeCs.cons leF ?_ | refine LeCs.cons leI ?_)
  by_cases h6 : fn = 6
  · subst h6
    refine FnOk.go t111 [] [] [] rfl rfl rfl rfl rfl rfl rfl (by simp) (by simp) ?_
    refine .e (.agg ?_)
    repeat (first | exact LeCs.nil | refine LeCs.cons (.refl _) ?_ | refine LeCs.cons leF ?_ | refine LeCs.cons leI ?_)
  by_cases h22 : fn = 22
  · subst h22
    refine FnOk.go t111 [] [] [] rfl rfl rfl rfl rfl rfl rfl (by simp) (by simp) ?_
    refine .e (.agg ?_)
    repeat (first | exact LeCs.nil | refine LeCs.cons (.refl _) ?_ | refine LeCs.cons leF ?_ | refine LeCs.cons leI ?_)
  by_cases h43 : fn = 43
  · subst h43
    refine FnOk.go t111 [] [] [] rfl rfl rfl rfl rfl rfl rfl (by simp) (by simp) ?_
    refine .e (.agg ?_)
    repeat (first | exact LeCs.nil | refine LeCs.cons (.refl _) ?_ | refine LeCs.cons leF ?_ | refine LeCs.cons leI ?_)
  have e : (Ask.mk fn a n vl an og bs ws ra rn cd ob).only = { fn := fn } := by simp [Ask.only, *]
  rw [e]
  refine FnOk.go t111 [.b 9 false, .b 11 false, .b 13 false, .b 13 false, .b 13 false, .b 13 false, .b 18 false, .b 20 false, .b 20 false, .b 23 false, .b 25 false] [] [] rfl rfl rfl rfl rfl rfl rfl (by simp [*]) (by simp) ?_
  refine .e (.agg ?_)
  repeat (first | exact LeCs.nil | refine LeCs.cons (.refl _) ?_ | refine LeCs.cons leF ?_ | refine LeCs.cons leI ?_)
/-- The numbers of a request, and how long its lists are. -/
abbrev Ask.nums (a : Ask) : List C := [.t (.int .i64 a.at_), .t (.int .i64 a.n), .t (.int .i64 a.val), .t (.int .i64 a.and_), .t (.int .i64 a.or_), .t (.int .i64 a.ra), .t (.int .i64 a.rn), .t (.int .i64 a.code), .t (.int .i64 a.obj), .t (.int .i64 a.bits.length), .t (.int .i64 a.words.length)]
/-- What the kinds of its fields say. -/
structure Ask.Fit (a : Ask) : Prop where
  fn : b64 a.fn
  at_ : b64 a.at_
  n : b64 a.n
  val : 0 ≤ a.val ∧ a.val ≤ 65535
  and_ : 0 ≤ a.and_ ∧ a.and_ ≤ 65535
  or_ : 0 ≤ a.or_ ∧ a.or_ ≤ 65535
  bits : a.bits.length ≤ 1000000000000
  words : a.words.length ≤ 1000000000000
  wrd : Wrd a.words
  ra : b64 a.ra
  rn : b64 a.rn
  code : b64 a.code
  obj : b64 a.obj
theorem numbers_ok {a : Ask} (h : a.Fit) : FnOk Tryz.prog 110 [a.v] [] (.e (.agg a.nums)) [] := by
  have h1 := h.val
  have h2 := h.and_
  have h3 := h.or_
  exact FnOk.go t110 [] [] [] rfl rfl rfl rfl rfl rfl rfl (by simp [putAt_length] <;> omega) (by simp) (.refl _)
end Go.Proofs.YthddlkhfkncgpaaGreat
