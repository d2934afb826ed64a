/-
  The walk over awake, and what objects that may be bring.
-/
import Derived.Test.YtjiodnilhfpikaaIdenH
set_option linter.unusedVariables false
set_option linter.unusedSimpArgs false
namespace Go.Proofs.Ytjiodnilhfpikaa
open Go.RowKit

theorem Good.lt {l : List Ob} (h : Good l) {i j : Nat} (hj : j < l.length) (hij : i < j) : (l[i]'(by omega)).1 < l[j].1 :=
  List.pairwise_iff_getElem.1 h.rise i j (by omega) hj hij
theorem Good.mono {l : List Ob} (h : Good l) (cd : Int) : Mono (overCode cd) l := by
  intro j k hk hj hp
  simp only [overCode, decide_eq_true_eq] at hp ⊢
  rcases Nat.lt_or_ge j k with h1 | h1
  · have := h.lt hk h1
    omega
  · obtain rfl : j = k := by omega
    exact hp
theorem Good.short {l : List Ob} (h : Good l) : Short l := fun o ho => by have := h.text o ho; omega
theorem Good.len {l : List Ob} (h : Good l) : l.length ≤ 1000000 := by have := h.few; omega
theorem Good.some_ {l : List Ob} (h : Good l) {cd : Int} (hcd : cd = 1 ∨ cd = 2 ∨ cd = 3) : 0 < (amongL cd l).length := by
  obtain ⟨x, y, z, r, rfl⟩ := h.base
  have : overCode cd (0, x) = false := by rcases hcd with rfl | rfl | rfl <;> rfl
  simp [amongL, this]
theorem lies_more {w : World} {A : Option Addr} {l : List Ob} (h : Lies w A (obsCells l)) (ob : Obj) : Lies (w.alloc ob) A (obsCells l) := h.keeps ((Keeps.refl _ _).alloc _)

def awakeL : List Ob := [(0, ⟨#[97]⟩), (1, ⟨#[98]⟩), (2, ⟨#[99]⟩)]
theorem awakeL_told : toldOf 1 1 awakeL = ([(1, ⟨#[98]⟩), (2, ⟨#[99]⟩)], none) := by decide
theorem awakeL_level : levelL awakeL = 129 := rfl

theorem awakeGood : Good awakeL := by
  refine ⟨⟨_, _, _, [], rfl⟩, by simp [awakeL], by simp [awakeL], ?_, by simp [awakeL]⟩
  intro o ho
  rcases List.mem_cons.1 ho with rfl | ho
  · decide
  rcases List.mem_cons.1 ho with rfl | ho
  · decide
  obtain rfl := List.mem_singleton.1 ho
  decide

set_option maxRecDepth 100000 in
set_option maxHeartbeats 2000000 in
theorem idenAwake_any (w : World) :
    Calls Try.prog 7 #[] w fun e w' => e = .returned (.bool true) ∧ Keeps Nope w w' := by
  go_enter Try.func7, Try.ntmps7
  go_wp2_with (fail)
  refine (answer_some _ 3 awakeL 1 1 _ (lies_block (heap_alloc_new w _)) (by decide) awakeGood.short (.inl rfl) (by omega) (by omega) (awakeGood.mono 1) (by decide)).mono ?_
  rintro e w1 ⟨v, rfl, hown, hk⟩
  rw [awakeL_told, awakeL_level] at *
  obtain ⟨A7, c7, rfl, hl7, hle7⟩ := Lies.of_own hown
  obtain ⟨b, o, rfl, c1, c2⟩ := hl7.ob (k := 0) (by decide)
  have hK := Lib.hid (((Keeps.refl Nope w).alloc _).trans hk)
  have c1n : ∀ ob : Obj, (w1.alloc ob).cell? ⟨b, o, none⟩ = some (.int .i64 1) := fun ob => by
    obtain ⟨b', o', e, c1', _⟩ := (lies_more hl7 ob).ob (k := 0) (by decide)
    cases e; exact c1'
  have c2n : ∀ ob : Obj, (w1.alloc ob).cell? ⟨b, o + 1, none⟩ = some (.string ⟨#[98]⟩) := fun ob => by
    obtain ⟨b', o', e, _, c2'⟩ := (lies_more hl7 ob).ob (k := 0) (by decide)
    cases e; exact c2'
  clear hown hl7 hk c1 c2
  go_wp2_with (fail)
  go_ret
  exact ⟨rfl, hK.out.alloc _⟩
end Go.Proofs.Ytjiodnilhfpikaa
