/-
  The walk over awake: the chapter's example comes out as the document says.
-/
import Derived.Test.YtildgpecdapnhaaDesk2
import Derived.Test.YtildgpecdapnhaaLow
set_option linter.unusedVariables false
set_option linter.unusedSimpArgs false
namespace Go.Proofs.Ytildgpecdapnhaa
open Go.RowKit

def D0 : List Int := List.replicate 32 0
def D1 : List Int := 1 :: List.replicate 31 0
def D2 : List Int := 1 :: 1 :: List.replicate 30 0
def D3 : List Int := 0 :: 1 :: List.replicate 30 0
theorem d0 : deskOpen 2 D0 = (0, true, D1) := by decide
theorem d1 : deskOpen 2 D1 = (1, true, D2) := by decide
theorem d2 : deskOpen 2 D2 = (0, false, D2) := by decide
theorem d3 : deskTurn 2 D2 0 0 [1, 2] = (true, D3) := by decide
theorem d4 : deskOpen 2 D3 = (0, true, D2) := by decide

set_option maxHeartbeats 400000 in
theorem deskAwake_any (w : World) :
    Calls Try.prog 6 #[] w fun e w' => e = .returned (.bool true) ∧ Keeps Nope w w' := by
  go_enter Try.func6, Try.ntmps6
  go_wp2_with (fail)
  refine (deskNew_any _ _).mono ?_
  rintro e w1 ⟨rfl, hd, hk⟩
  have hd : IsDesk w1 w.heap.size 40 2 D0 := hd
  go_wp2_with (fail)
  refine (deskOpen_any _ _ _ _ hd (by omega)).mono ?_
  rintro e w2 ⟨rfl, hd, hk2⟩
  rw [d0] at hd ⊢
  go_wp2_with (fail)
  refine (deskOpen_any _ _ _ _ hd (by omega)).mono ?_
  rintro e w3 ⟨rfl, hd, hk3⟩
  rw [d1] at hd ⊢
  go_wp2_with (fail)
  refine (deskOpen_any _ _ _ _ hd (by omega)).mono ?_
  rintro e w4 ⟨rfl, hd, hk4⟩
  rw [d2] at hd ⊢
  go_wp2_with (fail)
  refine (deskClose_any _ _ _ _ _ hd (by omega)).mono ?_
  rintro e w5 ⟨rfl, hd, hk5⟩
  rw [d3] at hd ⊢
  go_wp2_with (fail)
  refine (deskOpen_any _ _ _ _ hd (by omega)).mono ?_
  rintro e w6 ⟨rfl, hd, hk6⟩
  rw [d4] at hd ⊢
  go_wp2
  go_ret
  exact ⟨rfl, hk.then ((((hk2.trans hk3).trans hk4).trans hk5).trans hk6) (fun i hi h => by have : i = w.heap.size := h; omega)⟩
end Go.Proofs.Ytildgpecdapnhaa
