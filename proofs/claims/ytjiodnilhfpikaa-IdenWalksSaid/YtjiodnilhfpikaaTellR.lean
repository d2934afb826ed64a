/-
  The walks over package tell up to Right: which replies may be.
-/
import Derived.Test.YtjiodnilhfpikaaKind
import Derived.StillTailTactics
import Derived.BigRegion
import Derived.Deep.RegionHeld3
set_option linter.unusedVariables false
set_option linter.unusedSimpArgs false
namespace Go.Proofs.Ytjiodnilhfpikaa
open Go.RowKit

def oneOf (b : Bool) : Int := if b then 1 else 0
def countsB (n m : Int) : Bool := decide (1 ≤ n ∧ n ≤ m)
theorem tellCounts_any (n m : Int) (w : World) : Calls Try.prog 45 #[.int .i64 n, .int .i64 m] w fun e w' => e = .returned (.bool (countsB n m)) ∧ w = w' := by
  by_cases h0 : 1 ≤ n
  · have R : Hid (countsB n m = decide (n ≤ m)) := by show countsB n m = decide (n ≤ m); simp [countsB, h0]
    go_enter Try.func45, Try.ntmps45
    go_wp2
    go_ret
    exact ⟨by rw [R.out]; rfl, rfl⟩
  · have R : Hid (countsB n m = false) := by show countsB n m = false; simp [countsB, h0]
    go_enter Try.func45, Try.ntmps45
    go_wp2
    go_ret
    exact ⟨by rw [R.out]; try rfl, rfl⟩
def excB (n : Int) : Bool := decide (n ∈ [1, 2, 3, 4, 6])
theorem tellException_any (n : Int) (w : World) : Calls Try.prog 39 #[.int .i64 n] w fun e w' => e = .returned (.bool (excB n)) ∧ w = w' := by
  by_cases h : n ∈ [1, 2, 3, 4, 6]
  · have R : Hid (excB n = true) := by show excB n = true; exact decide_eq_true h
    simp at h
    rcases h with rfl | rfl | rfl | rfl | rfl
    all_goals
      go_enter Try.func39, Try.ntmps39
      go_wp2
      go_ret
      exact ⟨by rw [R.out]; rfl, rfl⟩
  · have R : Hid (excB n = false) := by show excB n = false; exact decide_eq_false h
    have a1 : (n == 1) = false := by simp at h ⊢; omega
    have a2 : (n == 2) = false := by simp at h ⊢; omega
    have a3 : (n == 3) = false := by simp at h ⊢; omega
    have a4 : (n == 4) = false := by simp at h ⊢; omega
    have a6 : (n == 6) = false := by simp at h ⊢; omega
    clear h
    go_enter Try.func39, Try.ntmps39
    go_wp2
    go_ret
    exact ⟨by rw [R.out]; rfl, rfl⟩
theorem tellOne_any (b : Bool) (w : World) : Calls Try.prog 34 #[.bool b] w fun e w' => e = .returned (.int .i64 (oneOf b)) ∧ w = w' := by
  cases b
  all_goals
    go_enter Try.func34, Try.ntmps34
    go_wp2
    go_ret
    exact ⟨rfl, rfl⟩
def isByteB (n : Int) : Bool := decide (0 ≤ n ∧ n ≤ 255)
theorem tellIsByte_any (n : Int) (w : World) : Calls Try.prog 40 #[.int .i64 n] w fun e w' => e = .returned (.bool (isByteB n)) ∧ w = w' := by
  by_cases h0 : 0 ≤ n
  · by_cases h1 : n ≤ 255
    · have R : Hid (isByteB n = true) := by show isByteB n = true; simp [isByteB, h0, h1]
      go_enter Try.func40, Try.ntmps40
      go_wp2
      go_ret
      exact ⟨by rw [R.out]; simp [h1], rfl⟩
    · have R : Hid (isByteB n = false) := by show isByteB n = false; simp [isByteB, h1]
      go_enter Try.func40, Try.ntmps40
      go_wp2
      go_ret
      exact ⟨by rw [R.out]; simp; try omega, rfl⟩
  · have R : Hid (isByteB n = false) := by show isByteB n = false; simp [isByteB, h0]
    go_enter Try.func40, Try.ntmps40
    go_wp2
    go_ret
    exact ⟨by rw [R.out]; try rfl, rfl⟩

set_option maxRecDepth 100000 in
set_option maxHeartbeats 1000000 in
theorem tellNumbers_any (fn exc ad n vl an og cd lv nx : Int) (mo : Bool) (Ab Aw Ao : Option Addr) (nb cb nw cw no co : Nat) (w : World)
    (h1 : 0 ≤ vl) (h2 : vl ≤ 65535) (h3 : 0 ≤ an) (h4 : an ≤ 65535) (h5 : 0 ≤ og) (h6 : og ≤ 65535) :
    Calls Try.prog 41 #[(.agg #[.int .i64 fn, .int .i64 exc, (.slice Ab nb cb), (.slice Aw nw cw), .int .i64 ad, .int .i64 n, .int .u16 vl, .int .u16 an, .int .u16 og, .int .i64 cd, .int .i64 lv, .bool mo, .int .i64 nx, (.slice Ao no co)])] w
      fun e w' => e = .returned (.agg #[.int .i64 ad, .int .i64 n, .int .i64 vl, .int .i64 an, .int .i64 og, .int .i64 cd, .int .i64 lv, .int .i64 (oneOf mo), .int .i64 nx, .int .i64 nb, .int .i64 nw, .int .i64 no]) ∧ Keeps Nope w w' := by
  go_enter Try.func41, Try.ntmps41
  go_wp2
  refine wp_region_tail 32 (by kernel_rfl) (by kernel_rfl) (fun W => W.heap[w.heap.size]? = some (.cells _ 32 (0, 0)) ∧ W.heap[w.heap.size + 1]? = some (.cells _ 65 (0, 0)) ∧ Keeps Nope w W) ⟨heap_alloc2_old _ _ _, heap_alloc2_new _ _ _, (((Keeps.refl _ _).alloc _).alloc _).drew⟩ ?_
  rintro W ⟨b1, b2, hK⟩
  obtain ⟨c1, f1⟩ := cells_at b1
  simp only [List.take_succ_cons, List.take_zero, List.drop_succ_cons, List.drop_zero]
  generalize hg : w.heap.size = g at *
  have hG := Lib.hid (Nat.le_of_eq hg)
  clear hg
  clear b1
  have e1 := wrap_u16 h1 h2
  have e2 := wrap_u16 h3 h4
  have e3 := wrap_u16 h5 h6
  repeat still_step
  still_call ((tellOne_any mo W).mono fun _ _ h => ⟨h.1, h.2.symm⟩)
  repeat still_step
  refine wpStill_nil ?_
  refine wpList_store_row rfl 65 _ _ rfl (g + 1) _ rfl rfl 65 _ b2 (by kernel_rfl) rfl (by simp [Value.oneCell']) ?_
  go_wp2
  have hb := setRow_heap W (g + 1) _ #[.int .i64 ad, .int .i64 n, .int .i64 vl, .int .i64 an, .int .i64 og, .int .i64 cd, .int .i64 lv, .int .i64 (oneOf mo), .int .i64 nx, .int .i64 nb, .int .i64 nw, .int .i64 no] _ _ b2
  exact bodyPost_ret (results_cell_row rfl _ _ (g + 1) _ _ _ _ rfl hb Try.underlying65 rfl (by kernel_rfl)) rfl ⟨rfl, hK.setRow (.inl (by have := hG.out; omega)) _⟩
end Go.Proofs.Ytjiodnilhfpikaa
