/-
  Spans, as rows.
-/
import Derived.Test.YthddlkhfkncgpaaGreatT0
set_option linter.unusedVariables false
set_option linter.unusedSimpArgs false
namespace Go.Proofs.YthddlkhfkncgpaaGreat
open Go.RowKit

/-- Addresses in a row: table, from, to. -/
abbrev Spn := Int × Int × Int
def rwS (l : List Spn) : List (List D) := l.map fun c => [.int .i64 c.1, .int .i64 c.2.1, .int .i64 c.2.2]
@[simp] theorem rwS_len (l : List Spn) : (rwS l).length = l.length := by simp [rwS]
theorem rwS_get {l : List Spn} {i : Nat} (h : i < l.length) : (rwS l)[i]? = some [.int .i64 l[i].1, .int .i64 l[i].2.1, .int .i64 l[i].2.2] := by simp [rwS, h]
theorem rwS_app (l m : List Spn) : rwS l ++ rwS m = rwS (l ++ m) := by simp [rwS]
abbrev lSp (l : List Spn) : D := .ls 3 l.length (rwS l)
abbrev vSp (l : List Spn) : V := vD (lSp l)
abbrev vS3 (c : Spn) : V := .e (.agg [.t (.int .i64 c.1), .t (.int .i64 c.2.1), .t (.int .i64 c.2.2)])
end Go.Proofs.YthddlkhfkncgpaaGreat
