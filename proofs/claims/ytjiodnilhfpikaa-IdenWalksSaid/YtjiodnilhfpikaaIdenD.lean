/-
  The walk over iden.Answer: the reply to who asks who the device is.
-/
import Derived.Test.YtjiodnilhfpikaaIdenC
set_option linter.unusedVariables false
set_option linter.unusedSimpArgs false
namespace Go.Proofs.Ytjiodnilhfpikaa
open Go.RowKit

/-- An exception: no reply. -/
def AnswerNo (exc : Int) (w : World) (e : Ending) (w' : World) : Prop :=
  e = .returned (.tuple #[(.agg #[.int .i64 0, .int .i64 0, (.slice none 0 0), (.slice none 0 0), .int .i64 0, .int .i64 0, .int .u16 0, .int .u16 0, .int .u16 0, .int .i64 0, .int .i64 0, .bool false, .int .i64 0, (.slice none 0 0)]), .int .i64 exc]) ∧ Keeps Nope w w'
/-- A reply that tells some objects. -/
def AnswerYes (cd lv : Int) (mo : Bool) (nx : Int) (l : List Ob) (w : World) (e : Ending) (w' : World) : Prop :=
  ∃ v, e = .returned (.tuple #[(.agg #[.int .i64 43, .int .i64 0, (.slice none 0 0), (.slice none 0 0), .int .i64 0, .int .i64 0, .int .u16 0, .int .u16 0, .int .u16 0, .int .i64 cd, .int .i64 lv, .bool mo, .int .i64 nx, v]), .int .i64 0]) ∧ w'.ownsRow w.heap.size 36 2 v l.length (obsCells l) ∧ Keeps Nope w w'

set_option maxRecDepth 100000 in
set_option maxHeartbeats 2000000 in
theorem answer_code (A : Option Addr) (c : Nat) (l : List Ob) (cd ob : Int) (w : World) (h : cd < 1 ∨ 4 < cd) :
    Calls Try.prog 10 #[.slice A l.length c, .int .i64 cd, .int .i64 ob] w (AnswerNo 3 w) := by
  rcases h with h | h
  all_goals
    go_enter Try.func10, Try.ntmps10
    go_wp2
    refine bodyPost_ret (v := .tuple #[(.agg #[.int .i64 0, .int .i64 0, (.slice none 0 0), (.slice none 0 0), .int .i64 0, .int .i64 0, .int .u16 0, .int .u16 0, .int .u16 0, .int .i64 0, .int .i64 0, .bool false, .int .i64 0, (.slice none 0 0)]), .int .i64 3]) (by simp [results, Try.results10, go_sem]) rfl ⟨rfl, ?_⟩
    exact (Keeps.refl _ _).alloc _

set_option maxRecDepth 100000 in
set_option maxHeartbeats 2000000 in
theorem answer_object (A : Option Addr) (c : Nat) (l : List Ob) (cd ob : Int) (w : World) (h : 1 ≤ cd ∧ cd ≤ 4) (ho : ob < 0 ∨ 255 < ob) :
    Calls Try.prog 10 #[.slice A l.length c, .int .i64 cd, .int .i64 ob] w (AnswerNo 3 w) := by
  obtain ⟨h1, h2⟩ := h
  rcases ho with h | h
  all_goals
    go_enter Try.func10, Try.ntmps10
    go_wp2
    refine bodyPost_ret (v := .tuple #[(.agg #[.int .i64 0, .int .i64 0, (.slice none 0 0), (.slice none 0 0), .int .i64 0, .int .i64 0, .int .u16 0, .int .u16 0, .int .u16 0, .int .i64 0, .int .i64 0, .bool false, .int .i64 0, (.slice none 0 0)]), .int .i64 3]) (by simp [results, Try.results10, go_sem]) rfl ⟨rfl, ?_⟩
    exact (Keeps.refl _ _).alloc _

/-- A reply's cells. -/
abbrev tcells (fn cd lv : Int) (mo : Bool) (nx : Int) (vo : Value) : Array Value :=
  #[.int .i64 fn, .int .i64 0, .slice none 0 0, .slice none 0 0, .int .i64 0, .int .i64 0, .int .u16 0, .int .u16 0, .int .u16 0, .int .i64 cd, .int .i64 lv, .bool mo, .int .i64 nx, vo]
theorem blk_keeps {w w' : World} {g : Nat} {cs : Array Value} {t : TypeId} (h : w.heap[g]? = some (.cells cs t (0, 0))) (hk : Keeps Nope w w') : w'.heap[g]? = some (.cells cs t (0, 0)) :=
  (hk.block g (heap_lt h) (fun f => f)).trans h
theorem tcells_one (fn cd lv : Int) (mo : Bool) (nx : Int) (vo : Value) (h : vo.oneCell' = true) : (tcells fn cd lv mo nx vo).all (·.oneCell') = true := by
  simp [tcells, h]
  simp [Value.oneCell']
theorem tellSize : (Try.prog.info? 32).map (·.size) = some 14 := by kernel_rfl

end Go.Proofs.Ytjiodnilhfpikaa
