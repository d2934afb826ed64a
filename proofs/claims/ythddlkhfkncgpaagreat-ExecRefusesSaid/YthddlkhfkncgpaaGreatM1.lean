/-
  Small functions: places, what functions there are, how many bytes bits take.
-/
import Derived.Test.YthddlkhfkncgpaaGreatT0
set_option maxRecDepth 100000
set_option linter.unusedVariables false
set_option linter.unusedSimpArgs false
namespace Go.Proofs.YthddlkhfkncgpaaGreat
open Go.RowKit

def kTab (fn : Int) : Int × Bool :=
  if fn = 1 ∨ fn = 5 ∨ fn = 15 then (0, true) else if fn = 2 then (1, true) else if fn = 3 ∨ fn = 6 ∨ fn = 16 ∨ fn = 22 ∨ fn = 23 then (2, true) else if fn = 4 then (3, true) else (0, false)
theorem kTable_ok (fn : Int) : FnOk Tryz.prog 51 [vI .i64 fn] [] (.tup [.c (.t (.int .i64 (kTab fn).1)), .c (.t (.bool (kTab fn).2))]) [] := by
  by_cases h1 : fn = 1
  · subst h1; exact FnOk.go t51 [] [] [] rfl rfl rfl rfl rfl rfl rfl trivial trivial (.refl _)
  by_cases h5 : fn = 5
  · subst h5; exact FnOk.go t51 [] [] [] rfl rfl rfl rfl rfl rfl rfl trivial trivial (.refl _)
  by_cases h15 : fn = 15
  · subst h15; exact FnOk.go t51 [] [] [] rfl rfl rfl rfl rfl rfl rfl trivial trivial (.refl _)
  by_cases h2 : fn = 2
  · subst h2; exact FnOk.go t51 [] [] [] rfl rfl rfl rfl rfl rfl rfl trivial trivial (.refl _)
  by_cases h3 : fn = 3
  · subst h3; exact FnOk.go t51 [] [] [] rfl rfl rfl rfl rfl rfl rfl trivial trivial (.refl _)
  by_cases h6 : fn = 6
  · subst h6; exact FnOk.go t51 [] [] [] rfl rfl rfl rfl rfl rfl rfl trivial trivial (.refl _)
  by_cases h16 : fn = 16
  · subst h16; exact FnOk.go t51 [] [] [] rfl rfl rfl rfl rfl rfl rfl trivial trivial (.refl _)
  by_cases h22 : fn = 22
  · subst h22; exact FnOk.go t51 [] [] [] rfl rfl rfl rfl rfl rfl rfl trivial trivial (.refl _)
  by_cases h23 : fn = 23
  · subst h23; exact FnOk.go t51 [] [] [] rfl rfl rfl rfl rfl rfl rfl trivial trivial (.refl _)
  by_cases h4 : fn = 4
  · subst h4; exact FnOk.go t51 [] [] [] rfl rfl rfl rfl rfl rfl rfl trivial trivial (.refl _)
  exact FnOk.go t51 [.b 5 false, .b 5 false, .b 5 false, .b 9 false, .b 11 false, .b 11 false, .b 11 false, .b 11 false, .b 11 false, .b 17 false] [] [] rfl rfl rfl rfl rfl rfl rfl (by simp [*]) trivial (.of (by simp [kTab, *]))
def rTab (fn : Int) : Int × Bool :=
  if fn = 1 ∨ fn = 5 ∨ fn = 15 then (0, true) else if fn = 2 then (1, true) else if fn = 3 ∨ fn = 6 ∨ fn = 16 ∨ fn = 22 ∨ fn = 23 then (2, true) else if fn = 4 then (3, true) else (0, false)
theorem rTable_ok (fn : Int) : FnOk Tryz.prog 54 [vI .i64 fn] [] (.tup [.c (.t (.int .i64 (rTab fn).1)), .c (.t (.bool (rTab fn).2))]) [] := by
  by_cases h1 : fn = 1
  · subst h1; exact FnOk.go t54 [] [] [] rfl rfl rfl rfl rfl rfl rfl trivial trivial (.refl _)
  by_cases h5 : fn = 5
  · subst h5; exact FnOk.go t54 [] [] [] rfl rfl rfl rfl rfl rfl rfl trivial trivial (.refl _)
  by_cases h15 : fn = 15
  · subst h15; exact FnOk.go t54 [] [] [] rfl rfl rfl rfl rfl rfl rfl trivial trivial (.refl _)
  by_cases h2 : fn = 2
  · subst h2; exact FnOk.go t54 [] [] [] rfl rfl rfl rfl rfl rfl rfl trivial trivial (.refl _)
  by_cases h3 : fn = 3
  · subst h3; exact FnOk.go t54 [] [] [] rfl rfl rfl rfl rfl rfl rfl trivial trivial (.refl _)
  by_cases h6 : fn = 6
  · subst h6; exact FnOk.go t54 [] [] [] rfl rfl rfl rfl rfl rfl rfl trivial trivial (.refl _)
  by_cases h16 : fn = 16
  · subst h16; exact FnOk.go t54 [] [] [] rfl rfl rfl rfl rfl rfl rfl trivial trivial (.refl _)
  by_cases h22 : fn = 22
  · subst h22; exact FnOk.go t54 [] [] [] rfl rfl rfl rfl rfl rfl rfl trivial trivial (.refl _)
  by_cases h23 : fn = 23
  · subst h23; exact FnOk.go t54 [] [] [] rfl rfl rfl rfl rfl rfl rfl trivial trivial (.refl _)
  by_cases h4 : fn = 4
  · subst h4; exact FnOk.go t54 [] [] [] rfl rfl rfl rfl rfl rfl rfl trivial trivial (.refl _)
  exact FnOk.go t54 [.b 5 false, .b 5 false, .b 5 false, .b 9 false, .b 11 false, .b 11 false, .b 11 false, .b 11 false, .b 11 false, .b 17 false] [] [] rfl rfl rfl rfl rfl rfl rfl (by simp [*]) trivial (.of (by simp [rTab, *]))
def kMost (fn : Int) : Int × Int :=
  if fn = 1 ∨ fn = 2 then (2000, 0) else if fn = 3 ∨ fn = 4 then (125, 0) else if fn = 5 ∨ fn = 6 ∨ fn = 22 then (0, 1) else if fn = 15 then (0, 1968) else if fn = 16 then (0, 123) else if fn = 23 then (125, 121) else (0, 0)
theorem kMost_ok (fn : Int) : FnOk Tryz.prog 113 [vI .i64 fn] [] (.tup [.c (.t (.int .i64 (kMost fn).1)), .c (.t (.int .i64 (kMost fn).2))]) [] := by
  by_cases h1 : fn = 1
  · subst h1; exact FnOk.go t113 [] [] [] rfl rfl rfl rfl rfl rfl rfl trivial trivial (.refl _)
  by_cases h2 : fn = 2
  · subst h2; exact FnOk.go t113 [] [] [] rfl rfl rfl rfl rfl rfl rfl trivial trivial (.refl _)
  by_cases h3 : fn = 3
  · subst h3; exact FnOk.go t113 [] [] [] rfl rfl rfl rfl rfl rfl rfl trivial trivial (.refl _)
  by_cases h4 : fn = 4
  · subst h4; exact FnOk.go t113 [] [] [] rfl rfl rfl rfl rfl rfl rfl trivial trivial (.refl _)
  by_cases h5 : fn = 5
  · subst h5; exact FnOk.go t113 [] [] [] rfl rfl rfl rfl rfl rfl rfl trivial trivial (.refl _)
  by_cases h6 : fn = 6
  · subst h6; exact FnOk.go t113 [] [] [] rfl rfl rfl rfl rfl rfl rfl trivial trivial (.refl _)
  by_cases h22 : fn = 22
  · subst h22; exact FnOk.go t113 [] [] [] rfl rfl rfl rfl rfl rfl rfl trivial trivial (.refl _)
  by_cases h15 : fn = 15
  · subst h15; exact FnOk.go t113 [] [] [] rfl rfl rfl rfl rfl rfl rfl trivial trivial (.refl _)
  by_cases h16 : fn = 16
  · subst h16; exact FnOk.go t113 [] [] [] rfl rfl rfl rfl rfl rfl rfl trivial trivial (.refl _)
  by_cases h23 : fn = 23
  · subst h23; exact FnOk.go t113 [] [] [] rfl rfl rfl rfl rfl rfl rfl trivial trivial (.refl _)
  exact FnOk.go t113 [.b 5 false, .b 5 false, .b 8 false, .b 8 false, .b 11 false, .b 11 false, .b 11 false, .b 15 false, .b 17 false, .b 19 false] [] [] rfl rfl rfl rfl rfl rfl rfl (by simp [*]) trivial (.of (by simp [kMost, *]))
def rMost (fn : Int) : Int × Int :=
  if fn = 1 ∨ fn = 2 then (2000, 0) else if fn = 3 ∨ fn = 4 then (125, 0) else if fn = 5 ∨ fn = 6 ∨ fn = 22 then (0, 1) else if fn = 15 then (0, 1968) else if fn = 16 then (0, 123) else if fn = 23 then (125, 121) else (0, 0)
theorem rMost_ok (fn : Int) : FnOk Tryz.prog 119 [vI .i64 fn] [] (.tup [.c (.t (.int .i64 (rMost fn).1)), .c (.t (.int .i64 (rMost fn).2))]) [] := by
  by_cases h1 : fn = 1
  · subst h1; exact FnOk.go t119 [] [] [] rfl rfl rfl rfl rfl rfl rfl trivial trivial (.refl _)
  by_cases h2 : fn = 2
  · subst h2; exact FnOk.go t119 [] [] [] rfl rfl rfl rfl rfl rfl rfl trivial trivial (.refl _)
  by_cases h3 : fn = 3
  · subst h3; exact FnOk.go t119 [] [] [] rfl rfl rfl rfl rfl rfl rfl trivial trivial (.refl _)
  by_cases h4 : fn = 4
  · subst h4; exact FnOk.go t119 [] [] [] rfl rfl rfl rfl rfl rfl rfl trivial trivial (.refl _)
  by_cases h5 : fn = 5
  · subst h5; exact FnOk.go t119 [] [] [] rfl rfl rfl rfl rfl rfl rfl trivial trivial (.refl _)
  by_cases h6 : fn = 6
  · subst h6; exact FnOk.go t119 [] [] [] rfl rfl rfl rfl rfl rfl rfl trivial trivial (.refl _)
  by_cases h22 : fn = 22
  · subst h22; exact FnOk.go t119 [] [] [] rfl rfl rfl rfl rfl rfl rfl trivial trivial (.refl _)
  by_cases h15 : fn = 15
  · subst h15; exact FnOk.go t119 [] [] [] rfl rfl rfl rfl rfl rfl rfl trivial trivial (.refl _)
  by_cases h16 : fn = 16
  · subst h16; exact FnOk.go t119 [] [] [] rfl rfl rfl rfl rfl rfl rfl trivial trivial (.refl _)
  by_cases h23 : fn = 23
  · subst h23; exact FnOk.go t119 [] [] [] rfl rfl rfl rfl rfl rfl rfl trivial trivial (.refl _)
  exact FnOk.go t119 [.b 5 false, .b 5 false, .b 8 false, .b 8 false, .b 11 false, .b 11 false, .b 11 false, .b 15 false, .b 17 false, .b 19 false] [] [] rfl rfl rfl rfl rfl rfl rfl (by simp [*]) trivial (.of (by simp [rMost, *]))
def placeB (n : Int) : Bool := decide (0 ≤ n ∧ n ≤ 65535)
theorem place_ok (n : Int) : FnOk Tryz.prog 118 [vI .i64 n] [] (vB (placeB n)) [] := by
  by_cases h1 : 0 ≤ n
  · exact FnOk.go t118 [.b 5 true] [] [] rfl rfl rfl rfl rfl rfl rfl (by simp [*]) trivial (.of (by simp [placeB, *]))
  · exact FnOk.go t118 [.b 5 false] [] [] rfl rfl rfl rfl rfl rfl rfl (by simp [*] <;> omega) trivial (.of (by simp [placeB, *]))
def bytefulB (n : Int) : Bool := decide (0 ≤ n ∧ n ≤ 255)
theorem byteful_ok (n : Int) : FnOk Tryz.prog 83 [vI .i64 n] [] (vB (bytefulB n)) [] := by
  by_cases h1 : 0 ≤ n
  · exact FnOk.go t83 [.b 5 true] [] [] rfl rfl rfl rfl rfl rfl rfl (by simp [*]) trivial (.of (by simp [bytefulB, *]))
  · exact FnOk.go t83 [.b 5 false] [] [] rfl rfl rfl rfl rfl rfl rfl (by simp [*] <;> omega) trivial (.of (by simp [bytefulB, *]))
theorem address_ok (n : Int) : FnOk Tryz.prog 112 [vI .i64 n] [] (vB (placeB n)) [] := by
  by_cases h1 : 0 ≤ n
  · exact FnOk.go t112 [.b 5 true] [] [] rfl rfl rfl rfl rfl rfl rfl (by simp [*]) trivial (.of (by simp [placeB, *]; omega))
  · exact FnOk.go t112 [.b 5 false] [] [] rfl rfl rfl rfl rfl rfl rfl (by simp [*] <;> omega) trivial (.of (by simp [placeB, *]))
def countsB (n m : Int) : Bool := decide (1 ≤ n ∧ n ≤ m)
theorem counts_ok (n m : Int) : FnOk Tryz.prog 114 [vI .i64 n, vI .i64 m] [] (vB (countsB n m)) [] := by
  by_cases h1 : 1 ≤ n
  · exact FnOk.go t114 [.b 7 true] [] [] rfl rfl rfl rfl rfl rfl rfl (by simp [*]) trivial (.of (by simp [countsB, *]))
  · exact FnOk.go t114 [.b 7 false] [] [] rfl rfl rfl rfl rfl rfl rfl (by simp [*] <;> omega) trivial (.of (by simp [countsB, *]))
def failingB (n : Int) : Bool := decide (1 ≤ n ∧ n ≤ 4 ∨ n = 6)
theorem failing_ok (n : Int) : FnOk Tryz.prog 213 [vI .i64 n] [] (vB (failingB n)) [] := by
  by_cases h1 : 1 ≤ n
  · by_cases h2 : n ≤ 4
    · exact FnOk.go t213 [.b 5 true, .b 9 true] [] [] rfl rfl rfl rfl rfl rfl rfl (by simp [*]) trivial (.vB (by simp [failingB, *] <;> omega))
    · exact FnOk.go t213 [.b 5 true, .b 9 false] [] [] rfl rfl rfl rfl rfl rfl rfl (by simp [*] <;> omega) trivial (.vB (by simp [failingB, *] <;> omega))
  · exact FnOk.go t213 [.b 5 false, .b 9 false] [] [] rfl rfl rfl rfl rfl rfl rfl (by simp [*] <;> omega) trivial (.vB (by simp [failingB, *] <;> omega))
def known (fn : Int) : Bool := decide (fn = 1 ∨ fn = 2 ∨ fn = 3 ∨ fn = 4 ∨ fn = 5 ∨ fn = 6 ∨ fn = 15 ∨ fn = 16 ∨ fn = 22 ∨ fn = 23 ∨ fn = 43)

theorem rKnown_ok (fn : Int) : FnOk Tryz.prog 116 [vI .i64 fn] [] (vB (known fn)) [] := by
  by_cases h1 : fn = 1
  · subst h1; exact FnOk.go t116 [] [] [] rfl rfl rfl rfl rfl rfl rfl trivial trivial (.refl _)
  by_cases h2 : fn = 2
  · subst h2; exact FnOk.go t116 [] [] [] rfl rfl rfl rfl rfl rfl rfl trivial trivial (.refl _)
  by_cases h3 : fn = 3
  · subst h3; exact FnOk.go t116 [] [] [] rfl rfl rfl rfl rfl rfl rfl trivial trivial (.refl _)
  by_cases h4 : fn = 4
  · subst h4; exact FnOk.go t116 [] [] [] rfl rfl rfl rfl rfl rfl rfl trivial trivial (.refl _)
  by_cases h5 : fn = 5
  · subst h5; exact FnOk.go t116 [] [] [] rfl rfl rfl rfl rfl rfl rfl trivial trivial (.refl _)
  by_cases h6 : fn = 6
  · subst h6; exact FnOk.go t116 [] [] [] rfl rfl rfl rfl rfl rfl rfl trivial trivial (.refl _)
  by_cases h15 : fn = 15
  · subst h15; exact FnOk.go t116 [] [] [] rfl rfl rfl rfl rfl rfl rfl trivial trivial (.refl _)
  by_cases h16 : fn = 16
  · subst h16; exact FnOk.go t116 [] [] [] rfl rfl rfl rfl rfl rfl rfl trivial trivial (.refl _)
  by_cases h22 : fn = 22
  · subst h22; exact FnOk.go t116 [] [] [] rfl rfl rfl rfl rfl rfl rfl trivial trivial (.refl _)
  by_cases h23 : fn = 23
  · subst h23; exact FnOk.go t116 [] [] [] rfl rfl rfl rfl rfl rfl rfl trivial trivial (.refl _)
  by_cases h43 : fn = 43
  · subst h43; exact FnOk.go t116 [] [] [] rfl rfl rfl rfl rfl rfl rfl trivial trivial (.refl _)
  by_cases h0 : 1 ≤ fn
  · exact FnOk.go t116 [.b 5 true, .b 9 false, .b 13 false, .b 17 false, .b 21 false, .b 25 false] [] [] rfl rfl rfl rfl rfl rfl rfl (by simp [*] <;> omega) trivial (.vB (by simp [known, *]))
  · exact FnOk.go t116 [.b 5 false, .b 13 false, .b 17 false, .b 21 false, .b 25 false] [] [] rfl rfl rfl rfl rfl rfl rfl (by simp [*] <;> omega) trivial (.vB (by simp [known, *]))
end Go.Proofs.YthddlkhfkncgpaaGreat
