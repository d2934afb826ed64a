/-
  The walks over tell.only: a reply with just those fields that its function has.
-/
import Derived.Test.YtjiodnilhfpikaaTellR
set_option linter.unusedVariables false
set_option linter.unusedSimpArgs false
namespace Go.Proofs.Ytjiodnilhfpikaa
open Go.RowKit

set_option maxRecDepth 100000 in
set_option maxHeartbeats 4000000 in
theorem tellOnly_1 (exc ad n vl an og cd lv nx : Int) (mo : Bool) (Ab Aw Ao : Option Addr) (nb cb nw cw no co : Nat) (w : World) :
    Calls Try.prog 43 #[(.agg #[.int .i64 1, .int .i64 exc, (.slice Ab nb cb), (.slice Aw nw cw), .int .i64 ad, .int .i64 n, .int .u16 vl, .int .u16 an, .int .u16 og, .int .i64 cd, .int .i64 lv, .bool mo, .int .i64 nx, (.slice Ao no co)])] w
      fun e w' => e = .returned (.agg #[.int .i64 1, .int .i64 0, (.slice Ab nb cb), (.slice none 0 0), .int .i64 0, .int .i64 0, .int .u16 0, .int .u16 0, .int .u16 0, .int .i64 0, .int .i64 0, .bool false, .int .i64 0, (.slice none 0 0)]) ∧ Keeps Nope w w' := by
  go_enter Try.func43, Try.ntmps43
  go_wp2
  refine bodyPost_ret (v := (.agg #[.int .i64 1, .int .i64 0, (.slice Ab nb cb), (.slice none 0 0), .int .i64 0, .int .i64 0, .int .u16 0, .int .u16 0, .int .u16 0, .int .i64 0, .int .i64 0, .bool false, .int .i64 0, (.slice none 0 0)])) (by simp [results, Try.results43, go_sem]) rfl ⟨rfl, ?_⟩
  exact ((((Keeps.refl _ _).alloc _).alloc _).alloc _)

set_option maxRecDepth 100000 in
set_option maxHeartbeats 4000000 in
theorem tellOnly_2 (exc ad n vl an og cd lv nx : Int) (mo : Bool) (Ab Aw Ao : Option Addr) (nb cb nw cw no co : Nat) (w : World) :
    Calls Try.prog 43 #[(.agg #[.int .i64 2, .int .i64 exc, (.slice Ab nb cb), (.slice Aw nw cw), .int .i64 ad, .int .i64 n, .int .u16 vl, .int .u16 an, .int .u16 og, .int .i64 cd, .int .i64 lv, .bool mo, .int .i64 nx, (.slice Ao no co)])] w
      fun e w' => e = .returned (.agg #[.int .i64 2, .int .i64 0, (.slice Ab nb cb), (.slice none 0 0), .int .i64 0, .int .i64 0, .int .u16 0, .int .u16 0, .int .u16 0, .int .i64 0, .int .i64 0, .bool false, .int .i64 0, (.slice none 0 0)]) ∧ Keeps Nope w w' := by
  go_enter Try.func43, Try.ntmps43
  go_wp2
  refine bodyPost_ret (v := (.agg #[.int .i64 2, .int .i64 0, (.slice Ab nb cb), (.slice none 0 0), .int .i64 0, .int .i64 0, .int .u16 0, .int .u16 0, .int .u16 0, .int .i64 0, .int .i64 0, .bool false, .int .i64 0, (.slice none 0 0)])) (by simp [results, Try.results43, go_sem]) rfl ⟨rfl, ?_⟩
  exact ((((Keeps.refl _ _).alloc _).alloc _).alloc _)

set_option maxRecDepth 100000 in
set_option maxHeartbeats 4000000 in
theorem tellOnly_3 (exc ad n vl an og cd lv nx : Int) (mo : Bool) (Ab Aw Ao : Option Addr) (nb cb nw cw no co : Nat) (w : World) :
    Calls Try.prog 43 #[(.agg #[.int .i64 3, .int .i64 exc, (.slice Ab nb cb), (.slice Aw nw cw), .int .i64 ad, .int .i64 n, .int .u16 vl, .int .u16 an, .int .u16 og, .int .i64 cd, .int .i64 lv, .bool mo, .int .i64 nx, (.slice Ao no co)])] w
      fun e w' => e = .returned (.agg #[.int .i64 3, .int .i64 0, (.slice none 0 0), (.slice Aw nw cw), .int .i64 0, .int .i64 0, .int .u16 0, .int .u16 0, .int .u16 0, .int .i64 0, .int .i64 0, .bool false, .int .i64 0, (.slice none 0 0)]) ∧ Keeps Nope w w' := by
  go_enter Try.func43, Try.ntmps43
  go_wp2
  refine bodyPost_ret (v := (.agg #[.int .i64 3, .int .i64 0, (.slice none 0 0), (.slice Aw nw cw), .int .i64 0, .int .i64 0, .int .u16 0, .int .u16 0, .int .u16 0, .int .i64 0, .int .i64 0, .bool false, .int .i64 0, (.slice none 0 0)])) (by simp [results, Try.results43, go_sem]) rfl ⟨rfl, ?_⟩
  exact ((((Keeps.refl _ _).alloc _).alloc _).alloc _)

set_option maxRecDepth 100000 in
set_option maxHeartbeats 4000000 in
theorem tellOnly_4 (exc ad n vl an og cd lv nx : Int) (mo : Bool) (Ab Aw Ao : Option Addr) (nb cb nw cw no co : Nat) (w : World) :
    Calls Try.prog 43 #[(.agg #[.int .i64 4, .int .i64 exc, (.slice Ab nb cb), (.slice Aw nw cw), .int .i64 ad, .int .i64 n, .int .u16 vl, .int .u16 an, .int .u16 og, .int .i64 cd, .int .i64 lv, .bool mo, .int .i64 nx, (.slice Ao no co)])] w
      fun e w' => e = .returned (.agg #[.int .i64 4, .int .i64 0, (.slice none 0 0), (.slice Aw nw cw), .int .i64 0, .int .i64 0, .int .u16 0, .int .u16 0, .int .u16 0, .int .i64 0, .int .i64 0, .bool false, .int .i64 0, (.slice none 0 0)]) ∧ Keeps Nope w w' := by
  go_enter Try.func43, Try.ntmps43
  go_wp2
  refine bodyPost_ret (v := (.agg #[.int .i64 4, .int .i64 0, (.slice none 0 0), (.slice Aw nw cw), .int .i64 0, .int .i64 0, .int .u16 0, .int .u16 0, .int .u16 0, .int .i64 0, .int .i64 0, .bool false, .int .i64 0, (.slice none 0 0)])) (by simp [results, Try.results43, go_sem]) rfl ⟨rfl, ?_⟩
  exact ((((Keeps.refl _ _).alloc _).alloc _).alloc _)

set_option maxRecDepth 100000 in
set_option maxHeartbeats 4000000 in
theorem tellOnly_23 (exc ad n vl an og cd lv nx : Int) (mo : Bool) (Ab Aw Ao : Option Addr) (nb cb nw cw no co : Nat) (w : World) :
    Calls Try.prog 43 #[(.agg #[.int .i64 23, .int .i64 exc, (.slice Ab nb cb), (.slice Aw nw cw), .int .i64 ad, .int .i64 n, .int .u16 vl, .int .u16 an, .int .u16 og, .int .i64 cd, .int .i64 lv, .bool mo, .int .i64 nx, (.slice Ao no co)])] w
      fun e w' => e = .returned (.agg #[.int .i64 23, .int .i64 0, (.slice none 0 0), (.slice Aw nw cw), .int .i64 0, .int .i64 0, .int .u16 0, .int .u16 0, .int .u16 0, .int .i64 0, .int .i64 0, .bool false, .int .i64 0, (.slice none 0 0)]) ∧ Keeps Nope w w' := by
  go_enter Try.func43, Try.ntmps43
  go_wp2
  refine bodyPost_ret (v := (.agg #[.int .i64 23, .int .i64 0, (.slice none 0 0), (.slice Aw nw cw), .int .i64 0, .int .i64 0, .int .u16 0, .int .u16 0, .int .u16 0, .int .i64 0, .int .i64 0, .bool false, .int .i64 0, (.slice none 0 0)])) (by simp [results, Try.results43, go_sem]) rfl ⟨rfl, ?_⟩
  exact ((((Keeps.refl _ _).alloc _).alloc _).alloc _)

set_option maxRecDepth 100000 in
set_option maxHeartbeats 4000000 in
theorem tellOnly_5 (exc ad n vl an og cd lv nx : Int) (mo : Bool) (Ab Aw Ao : Option Addr) (nb cb nw cw no co : Nat) (w : World) :
    Calls Try.prog 43 #[(.agg #[.int .i64 5, .int .i64 exc, (.slice Ab nb cb), (.slice Aw nw cw), .int .i64 ad, .int .i64 n, .int .u16 vl, .int .u16 an, .int .u16 og, .int .i64 cd, .int .i64 lv, .bool mo, .int .i64 nx, (.slice Ao no co)])] w
      fun e w' => e = .returned (.agg #[.int .i64 5, .int .i64 0, (.slice none 0 0), (.slice none 0 0), .int .i64 ad, .int .i64 0, .int .u16 vl, .int .u16 0, .int .u16 0, .int .i64 0, .int .i64 0, .bool false, .int .i64 0, (.slice none 0 0)]) ∧ Keeps Nope w w' := by
  go_enter Try.func43, Try.ntmps43
  go_wp2
  go_region
  go_wp2
  refine bodyPost_ret (v := (.agg #[.int .i64 5, .int .i64 0, (.slice none 0 0), (.slice none 0 0), .int .i64 ad, .int .i64 0, .int .u16 vl, .int .u16 0, .int .u16 0, .int .i64 0, .int .i64 0, .bool false, .int .i64 0, (.slice none 0 0)])) (by simp [results, Try.results43, go_sem]) rfl ⟨rfl, ?_⟩
  exact ((((Keeps.refl _ _).alloc _).alloc _).alloc _).drew

set_option maxRecDepth 100000 in
set_option maxHeartbeats 4000000 in
theorem tellOnly_6 (exc ad n vl an og cd lv nx : Int) (mo : Bool) (Ab Aw Ao : Option Addr) (nb cb nw cw no co : Nat) (w : World) :
    Calls Try.prog 43 #[(.agg #[.int .i64 6, .int .i64 exc, (.slice Ab nb cb), (.slice Aw nw cw), .int .i64 ad, .int .i64 n, .int .u16 vl, .int .u16 an, .int .u16 og, .int .i64 cd, .int .i64 lv, .bool mo, .int .i64 nx, (.slice Ao no co)])] w
      fun e w' => e = .returned (.agg #[.int .i64 6, .int .i64 0, (.slice none 0 0), (.slice none 0 0), .int .i64 ad, .int .i64 0, .int .u16 vl, .int .u16 0, .int .u16 0, .int .i64 0, .int .i64 0, .bool false, .int .i64 0, (.slice none 0 0)]) ∧ Keeps Nope w w' := by
  go_enter Try.func43, Try.ntmps43
  go_wp2
  go_region
  go_wp2
  refine bodyPost_ret (v := (.agg #[.int .i64 6, .int .i64 0, (.slice none 0 0), (.slice none 0 0), .int .i64 ad, .int .i64 0, .int .u16 vl, .int .u16 0, .int .u16 0, .int .i64 0, .int .i64 0, .bool false, .int .i64 0, (.slice none 0 0)])) (by simp [results, Try.results43, go_sem]) rfl ⟨rfl, ?_⟩
  exact ((((Keeps.refl _ _).alloc _).alloc _).alloc _).drew

set_option maxRecDepth 100000 in
set_option maxHeartbeats 4000000 in
theorem tellOnly_15 (exc ad n vl an og cd lv nx : Int) (mo : Bool) (Ab Aw Ao : Option Addr) (nb cb nw cw no co : Nat) (w : World) :
    Calls Try.prog 43 #[(.agg #[.int .i64 15, .int .i64 exc, (.slice Ab nb cb), (.slice Aw nw cw), .int .i64 ad, .int .i64 n, .int .u16 vl, .int .u16 an, .int .u16 og, .int .i64 cd, .int .i64 lv, .bool mo, .int .i64 nx, (.slice Ao no co)])] w
      fun e w' => e = .returned (.agg #[.int .i64 15, .int .i64 0, (.slice none 0 0), (.slice none 0 0), .int .i64 ad, .int .i64 n, .int .u16 0, .int .u16 0, .int .u16 0, .int .i64 0, .int .i64 0, .bool false, .int .i64 0, (.slice none 0 0)]) ∧ Keeps Nope w w' := by
  go_enter Try.func43, Try.ntmps43
  go_wp2
  go_region
  go_wp2
  refine bodyPost_ret (v := (.agg #[.int .i64 15, .int .i64 0, (.slice none 0 0), (.slice none 0 0), .int .i64 ad, .int .i64 n, .int .u16 0, .int .u16 0, .int .u16 0, .int .i64 0, .int .i64 0, .bool false, .int .i64 0, (.slice none 0 0)])) (by simp [results, Try.results43, go_sem]) rfl ⟨rfl, ?_⟩
  exact ((((Keeps.refl _ _).alloc _).alloc _).alloc _).drew

set_option maxRecDepth 100000 in
set_option maxHeartbeats 4000000 in
theorem tellOnly_16 (exc ad n vl an og cd lv nx : Int) (mo : Bool) (Ab Aw Ao : Option Addr) (nb cb nw cw no co : Nat) (w : World) :
    Calls Try.prog 43 #[(.agg #[.int .i64 16, .int .i64 exc, (.slice Ab nb cb), (.slice Aw nw cw), .int .i64 ad, .int .i64 n, .int .u16 vl, .int .u16 an, .int .u16 og, .int .i64 cd, .int .i64 lv, .bool mo, .int .i64 nx, (.slice Ao no co)])] w
      fun e w' => e = .returned (.agg #[.int .i64 16, .int .i64 0, (.slice none 0 0), (.slice none 0 0), .int .i64 ad, .int .i64 n, .int .u16 0, .int .u16 0, .int .u16 0, .int .i64 0, .int .i64 0, .bool false, .int .i64 0, (.slice none 0 0)]) ∧ Keeps Nope w w' := by
  go_enter Try.func43, Try.ntmps43
  go_wp2
  go_region
  go_wp2
  refine bodyPost_ret (v := (.agg #[.int .i64 16, .int .i64 0, (.slice none 0 0), (.slice none 0 0), .int .i64 ad, .int .i64 n, .int .u16 0, .int .u16 0, .int .u16 0, .int .i64 0, .int .i64 0, .bool false, .int .i64 0, (.slice none 0 0)])) (by simp [results, Try.results43, go_sem]) rfl ⟨rfl, ?_⟩
  exact ((((Keeps.refl _ _).alloc _).alloc _).alloc _).drew

set_option maxRecDepth 100000 in
set_option maxHeartbeats 4000000 in
theorem tellOnly_22 (exc ad n vl an og cd lv nx : Int) (mo : Bool) (Ab Aw Ao : Option Addr) (nb cb nw cw no co : Nat) (w : World) :
    Calls Try.prog 43 #[(.agg #[.int .i64 22, .int .i64 exc, (.slice Ab nb cb), (.slice Aw nw cw), .int .i64 ad, .int .i64 n, .int .u16 vl, .int .u16 an, .int .u16 og, .int .i64 cd, .int .i64 lv, .bool mo, .int .i64 nx, (.slice Ao no co)])] w
      fun e w' => e = .returned (.agg #[.int .i64 22, .int .i64 0, (.slice none 0 0), (.slice none 0 0), .int .i64 ad, .int .i64 0, .int .u16 0, .int .u16 an, .int .u16 og, .int .i64 0, .int .i64 0, .bool false, .int .i64 0, (.slice none 0 0)]) ∧ Keeps Nope w w' := by
  go_enter Try.func43, Try.ntmps43
  go_wp2
  go_region
  go_wp2
  refine bodyPost_ret (v := (.agg #[.int .i64 22, .int .i64 0, (.slice none 0 0), (.slice none 0 0), .int .i64 ad, .int .i64 0, .int .u16 0, .int .u16 an, .int .u16 og, .int .i64 0, .int .i64 0, .bool false, .int .i64 0, (.slice none 0 0)])) (by simp [results, Try.results43, go_sem]) rfl ⟨rfl, ?_⟩
  exact ((((Keeps.refl _ _).alloc _).alloc _).alloc _).drew

set_option maxRecDepth 100000 in
set_option maxHeartbeats 4000000 in
theorem tellOnly_43 (exc ad n vl an og cd lv nx : Int) (mo : Bool) (Ab Aw Ao : Option Addr) (nb cb nw cw no co : Nat) (w : World) :
    Calls Try.prog 43 #[(.agg #[.int .i64 43, .int .i64 exc, (.slice Ab nb cb), (.slice Aw nw cw), .int .i64 ad, .int .i64 n, .int .u16 vl, .int .u16 an, .int .u16 og, .int .i64 cd, .int .i64 lv, .bool mo, .int .i64 nx, (.slice Ao no co)])] w
      fun e w' => e = .returned (.agg #[.int .i64 43, .int .i64 0, (.slice none 0 0), (.slice none 0 0), .int .i64 0, .int .i64 0, .int .u16 0, .int .u16 0, .int .u16 0, .int .i64 cd, .int .i64 lv, .bool mo, .int .i64 nx, (.slice Ao no co)]) ∧ Keeps Nope w w' := by
  go_enter Try.func43, Try.ntmps43
  go_wp2
  go_region
  go_wp2
  refine bodyPost_ret (v := (.agg #[.int .i64 43, .int .i64 0, (.slice none 0 0), (.slice none 0 0), .int .i64 0, .int .i64 0, .int .u16 0, .int .u16 0, .int .u16 0, .int .i64 cd, .int .i64 lv, .bool mo, .int .i64 nx, (.slice Ao no co)])) (by simp [results, Try.results43, go_sem]) rfl ⟨rfl, ?_⟩
  exact ((((Keeps.refl _ _).alloc _).alloc _).alloc _).drew
end Go.Proofs.Ytjiodnilhfpikaa
