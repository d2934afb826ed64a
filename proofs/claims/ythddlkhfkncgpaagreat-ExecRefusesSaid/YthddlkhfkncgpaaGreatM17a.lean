/-
  A list that is one's own; bytes and what is wrong with them.
-/
import Derived.Test.YthddlkhfkncgpaaGreatM7a
namespace Go.Proofs.YthddlkhfkncgpaaGreat
open Go.RowKit

/-- A list of whole numbers that is one's own. -/
abbrev oI (k : IntKind) (l : List Int) : Ob := .arr 1 (rI k l)
abbrev bytR (l : List Int) (e : Int) : V := .tup [.c (.t (lI .u8 l)), .c (.t (.int .i64 e))]
theorem wrd2 {x y : Int} (hx : 0 ≤ x ∧ x ≤ 65535) (hy : 0 ≤ y ∧ y ≤ 65535) : Wrd [x, y] := by
  intro z hz
  simp at hz
  rcases hz with rfl | rfl <;> assumption
theorem wrd3 {x y z : Int} (hx : 0 ≤ x ∧ x ≤ 65535) (hy : 0 ≤ y ∧ y ≤ 65535) (hz : 0 ≤ z ∧ z ≤ 65535) : Wrd [x, y, z] := by
  intro u0 hu
  simp at hu
  rcases hu with rfl | rfl | rfl <;> assumption
end Go.Proofs.YthddlkhfkncgpaaGreat
