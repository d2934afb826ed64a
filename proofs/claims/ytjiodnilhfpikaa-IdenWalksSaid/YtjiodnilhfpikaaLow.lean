/-
  The walks over the small number functions of the laws (Within, Digit).
-/
import Derived.Test.YtjiodnilhfpikaaProg
import Derived.Test.YtjiodnilhfpikaaBase
set_option linter.unusedVariables false
set_option linter.unusedSimpArgs false
namespace Go.Proofs.Ytjiodnilhfpikaa
open Go.RowKit

/-- A whole number of 64 bits. -/
def I64 (k : Int) : Prop := -9223372036854775808 ≤ k ∧ k ≤ 9223372036854775807

set_option maxHeartbeats 400000 in
theorem within_any (k n : Int) (w : World) (hn : 0 < n) (hn2 : n ≤ 9223372036854775807) :
    Calls Try.prog 9 #[.int .i64 k, .int .i64 n] w fun e w' => e = .returned (.int .i64 (k % n)) ∧ w = w' := by
  go_enter Try.func9, Try.ntmps9
  go_wp2
  · go_ret
    exact ⟨ret_int (tmod_neg hn ‹_› hn2), rfl⟩
  · go_ret
    exact ⟨ret_int (tmod_pos hn ‹_›), rfl⟩

/-- The part of a number that is left when it was divided. -/
def dig (k d n : Int) : Int := (k.tdiv d) % n
theorem dig_range (k d n : Int) (hn : 0 < n) : 0 ≤ dig k d n ∧ dig k d n < n := ⟨Int.emod_nonneg _ (by omega), Int.emod_lt_of_pos _ hn⟩
theorem wrap_tdiv {k d : Int} (hk : I64 k) (hd : 0 < d) : wrap64 (k.tdiv d) = k.tdiv d := by
  have h := Int.natAbs_tdiv_le_natAbs k d
  have h1 := hk.1
  have h2 := hk.2
  by_cases e : 0 ≤ k
  · have h3 := Int.tdiv_nonneg e (by omega : 0 ≤ d)
    unfold wrap64; omega
  · have h3 : k.tdiv d ≤ 0 := by
      have := Int.tdiv_nonneg (a := -k) (b := d) (by omega) (by omega)
      rw [Int.neg_tdiv] at this
      omega
    unfold wrap64; omega

set_option maxHeartbeats 400000 in
theorem digit_any (k d n : Int) (w : World) (hk : I64 k) (hd : 0 < d) (hn : 0 < n) (hn2 : n ≤ 9223372036854775807) :
    Calls Try.prog 22 #[.int .i64 k, .int .i64 d, .int .i64 n] w fun e w' => e = .returned (.int .i64 (dig k d n)) ∧ w = w' := by
  have hw := wrap_tdiv hk hd
  go_enter Try.func22, Try.ntmps22
  go_wp2_with (go_at_call 9; (with_reducible refine (within_any _ _ _ hn hn2).mono ?_); rintro e w' ⟨rfl, rfl⟩)
  go_ret
  exact ⟨rfl, rfl⟩
end Go.Proofs.Ytjiodnilhfpikaa
