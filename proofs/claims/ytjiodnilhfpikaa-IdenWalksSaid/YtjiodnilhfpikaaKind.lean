/-
  The walks over package kind, and over the document's functions of chapter 3: what a function code is.
-/
import Derived.Test.YtjiodnilhfpikaaProg
import Derived.Test.YtjiodnilhfpikaaBase
set_option linter.unusedVariables false
set_option linter.unusedSimpArgs false
namespace Go.Proofs.Ytjiodnilhfpikaa
open Go.RowKit

/-- None of the known functions. -/
structure Unknown (fn : Int) : Prop where
  n1 : (fn == 1) = false
  n2 : (fn == 2) = false
  n3 : (fn == 3) = false
  n4 : (fn == 4) = false
  n5 : (fn == 5) = false
  n6 : (fn == 6) = false
  n15 : (fn == 15) = false
  n16 : (fn == 16) = false
  n22 : (fn == 22) = false
  n23 : (fn == 23) = false
  n43 : (fn == 43) = false
def fns : List Int := [1, 2, 3, 4, 5, 6, 15, 16, 22, 23, 43]
theorem Unknown.of {fn : Int} (h : fn ∉ fns) : Unknown fn := by
  simp [fns] at h
  constructor <;> simp <;> omega
theorem Unknown.not {fn : Int} (h : Unknown fn) : fn ∉ fns := by
  obtain ⟨a1, a2, a3, a4, a5, a6, a7, a8, a9, a10, a11⟩ := h
  simp [fns] at *
  simp [*]
theorem fn_cases (fn : Int) : fn = 1 ∨ fn = 2 ∨ fn = 3 ∨ fn = 4 ∨ fn = 5 ∨ fn = 6 ∨ fn = 15 ∨ fn = 16 ∨ fn = 22 ∨ fn = 23 ∨ fn = 43 ∨ Unknown fn := by
  by_cases h : fn ∈ fns
  · simp [fns] at h
    omega
  · simp [Unknown.of h]

def kTable (fn : Int) : Int × Bool :=
  if fn = 1 ∨ fn = 5 ∨ fn = 15 then (0, true) else if fn = 2 then (1, true) else if fn = 3 ∨ fn = 6 ∨ fn = 16 ∨ fn = 22 ∨ fn = 23 then (2, true) else if fn = 4 then (3, true) else (0, false)
def kKnown (fn : Int) : Bool := decide (fn ∈ fns)
def kMost (fn : Int) : Int × Int :=
  if fn = 1 ∨ fn = 2 then (2000, 0) else if fn = 3 ∨ fn = 4 then (125, 0) else if fn = 5 ∨ fn = 6 ∨ fn = 22 then (0, 1) else if fn = 15 then (0, 1968) else if fn = 16 then (0, 123) else if fn = 23 then (125, 121) else (0, 0)
theorem Unknown.table {fn : Int} (h : Unknown fn) : kTable fn = (0, false) := by
  obtain ⟨a1, a2, a3, a4, a5, a6, a7, a8, a9, a10, a11⟩ := h
  simp at *
  simp [kTable, *]
theorem Unknown.most {fn : Int} (h : Unknown fn) : kMost fn = (0, 0) := by
  obtain ⟨a1, a2, a3, a4, a5, a6, a7, a8, a9, a10, a11⟩ := h
  simp at *
  simp [kMost, *]

set_option maxHeartbeats 1000000 in
theorem kindTable_any (fn : Int) (w : World) :
    Calls Try.prog 49 #[.int .i64 fn] w fun e w' => e = .returned (.tuple #[.int .i64 (kTable fn).1, .bool (kTable fn).2]) ∧ w = w' := by
  rcases fn_cases fn with rfl | rfl | rfl | rfl | rfl | rfl | rfl | rfl | rfl | rfl | rfl | h
  iterate 11
    · go_enter Try.func49, Try.ntmps49
      go_wp2
      go_ret2
      exact ⟨rfl, rfl⟩
  · rw [h.table]
    obtain ⟨a1, a2, a3, a4, a5, a6, a7, a8, a9, a10, a11⟩ := h
    go_enter Try.func49, Try.ntmps49
    go_wp2
    go_ret2
    exact ⟨rfl, rfl⟩

set_option maxHeartbeats 1000000 in
theorem kindMost_any (fn : Int) (w : World) :
    Calls Try.prog 44 #[.int .i64 fn] w fun e w' => e = .returned (.tuple #[.int .i64 (kMost fn).1, .int .i64 (kMost fn).2]) ∧ w = w' := by
  rcases fn_cases fn with rfl | rfl | rfl | rfl | rfl | rfl | rfl | rfl | rfl | rfl | rfl | h
  iterate 11
    · go_enter Try.func44, Try.ntmps44
      go_wp2
      go_ret2
      exact ⟨rfl, rfl⟩
  · rw [h.most]
    obtain ⟨a1, a2, a3, a4, a5, a6, a7, a8, a9, a10, a11⟩ := h
    go_enter Try.func44, Try.ntmps44
    go_wp2
    go_ret2
    exact ⟨rfl, rfl⟩

set_option maxHeartbeats 1000000 in
theorem kindKnown_any (fn : Int) (w : World) :
    Calls Try.prog 42 #[.int .i64 fn] w fun e w' => e = .returned (.bool (kKnown fn)) ∧ w = w' := by
  by_cases h : (kTable fn).2 = true
  · have R : Hid (kKnown fn = true) := by
      show kKnown fn = true
      rcases fn_cases fn with rfl | rfl | rfl | rfl | rfl | rfl | rfl | rfl | rfl | rfl | rfl | hu <;> first | rfl | (exfalso; revert h; decide) | (rw [hu.table] at h; cases h)
    go_enter Try.func42, Try.ntmps42
    go_wp2_with (fail)
    refine (kindTable_any _ _).mono ?_
    rintro e w' ⟨rfl, rfl⟩
    rw [h]
    clear h
    go_wp2
    go_ret
    exact ⟨ret_bool R.out.symm, rfl⟩
  · have R : Hid (kKnown fn = (fn == 43)) := by
      show kKnown fn = (fn == 43)
      rcases fn_cases fn with rfl | rfl | rfl | rfl | rfl | rfl | rfl | rfl | rfl | rfl | rfl | hu <;> first | (exfalso; revert h; decide) | rfl | (rw [hu.n43]; exact decide_eq_false hu.not)
    have h' : (kTable fn).2 = false := by simpa using h
    go_enter Try.func42, Try.ntmps42
    go_wp2_with (fail)
    refine (kindTable_any _ _).mono ?_
    rintro e w' ⟨rfl, rfl⟩
    rw [h']
    clear h h'
    go_wp2
    go_ret
    exact ⟨ret_bool R.out.symm, rfl⟩
end Go.Proofs.Ytjiodnilhfpikaa
