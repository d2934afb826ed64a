/-
  Lists of objects in memory, and the walk over tell.objects: whether objects may stand in a reply.
-/
import Derived.Test.YtjiodnilhfpikaaTellR
import Derived.Test.YtjiodnilhfpikaaSl
set_option linter.unusedVariables false
set_option linter.unusedSimpArgs false
namespace Go.Proofs.Ytjiodnilhfpikaa
open Go.RowKit

/-- An object: its number, and its text. -/
abbrev Ob := Int × ByteArray
def obCells (o : Ob) : List Value := [.int .i64 o.1, .string o.2]
def obsCells (l : List Ob) : List Value := l.flatMap obCells
theorem obsCells_at : ∀ (l : List Ob) (k : Nat) (h : k < l.length), (obsCells l)[k * 2]? = some (.int .i64 l[k].1) ∧ (obsCells l)[k * 2 + 1]? = some (.string l[k].2)
  | o :: l, 0, _ => by simp [obsCells, obCells]
  | o :: l, k + 1, h => by
    have := obsCells_at l k (by simpa using h)
    simp only [obsCells, List.flatMap_cons, obCells] at this ⊢
    rw [show (k + 1) * 2 = k * 2 + 2 by omega]
    simpa using this
theorem obsCells_length (l : List Ob) : (obsCells l).length = l.length * 2 := by
  induction l with
  | nil => rfl
  | cons o l ih => simp [obsCells, obCells] at ih ⊢; omega
theorem Lies.ob {w : World} {A : Option Addr} {l : List Ob} (h : Lies w A (obsCells l)) {k : Nat} (hk : k < l.length) :
    ∃ b o, A = some ⟨b, o, none⟩ ∧ w.cell? ⟨b, o + k * 2, none⟩ = some (.int .i64 l[k].1) ∧ w.cell? ⟨b, o + k * 2 + 1, none⟩ = some (.string l[k].2) := by
  obtain ⟨b, o, e, hr⟩ := h (by
    intro e0
    have := congrArg List.length e0
    rw [obsCells_length] at this
    simp only [List.length_nil] at this
    omega)
  have hc := obsCells_at l k hk
  exact ⟨b, o, e, hr _ _ hc.1, by have := hr _ _ hc.2; rwa [← Nat.add_assoc] at this⟩

/-- Objects that fit behind n bytes. -/
def objsOk : Int → List Ob → Bool
  | _, [] => true
  | n, o :: l => if isByteB o.1 ∧ n + (2 + o.2.size) ≤ 253 then objsOk (n + (2 + o.2.size)) l else false
theorem objsOk_drop {n : Int} {l : List Ob} {k : Nat} (hk : k < l.length) : objsOk n (l.drop k) = if isByteB l[k].1 ∧ n + (2 + l[k].2.size) ≤ 253 then objsOk (n + (2 + l[k].2.size)) (l.drop (k + 1)) else false := by
  rw [List.drop_eq_getElem_cons hk]; rfl
/-- Texts of a length that may be counted. -/
def Short (l : List Ob) : Prop := ∀ o ∈ l, o.2.size ≤ 1000000

set_option maxRecDepth 100000 in
set_option maxHeartbeats 1000000 in
theorem tellObjects_any (A : Option Addr) (c : Nat) (l : List Ob) (w : World) (hl : Lies w A (obsCells l)) (hs : Short l) (hn : l.length ≤ 1000000) :
    Calls Try.prog 46 #[.slice A l.length c] w fun e w' => e = .returned (.bool (objsOk 7 l)) ∧ Keeps Nope w w' := by
  obtain ⟨nl, hnl⟩ : ∃ nl, nl = l.length := ⟨_, rfl⟩
  have HN := Lib.hid hnl
  rw [← hnl] at hn ⊢
  clear hnl
  go_enter Try.func46, Try.ntmps46
  go_wp2
  go_loopw [3, 8] (fun s i wr => ∃ (k : Nat) (n : Int), k ≤ nl ∧ 0 ≤ n ∧ n ≤ 253 ∧ Hid (objsOk 7 l = objsOk n (l.drop k)) ∧ s = .int .i64 n ∧ i = .int .i64 (k : Int) ∧ Hid (Keeps Nope w wr)) (fun _ i _ => (nl - (intOf i)).toNat)
  case atStart => exact ⟨0, 7, by omega, by omega, by omega, rfl, rfl, rfl, Keeps.refl _ _⟩
  case round =>
    obtain ⟨k, n, hk, h0, h1, HL, rfl, rfl, HK⟩ := hrel
    by_cases hlt : k < nl
    · have hk' : k < l.length := by rw [← HN.out]; exact hlt
      obtain ⟨b, o, rfl, c1, c2⟩ := (hl.keeps HK.out).ob hk'
      have hsz := hs _ (List.getElem_mem hk')
      have HD := Lib.hid (HL.out.trans (objsOk_drop hk'))
      clear HL
      generalize l[k] = ob at *
      obtain ⟨id, tx⟩ := ob
      dsimp only at *
      by_cases hb : isByteB id = true
      · by_cases hs253 : n + (2 + tx.size) ≤ 253
        · have HD2 : Hid (objsOk 7 l = objsOk (n + (2 + tx.size)) (l.drop (k + 1))) := by have := HD.out; rw [if_pos ⟨hb, hs253⟩] at this; exact this
          clear HD hl hs
          go_wp2_with (fail)
          refine (tellIsByte_any _ _).mono ?_
          rintro e w' ⟨rfl, rfl⟩
          rw [hb]
          clear hb
          go_wp2
          go_roundw
          case rel => exact ⟨k + 1, n + (2 + tx.size), by omega, by omega, by omega, HD2, by go_num, by go_num, HK.out.alloc _⟩
          case measure => simp [intOf]; omega
        · have HD2 : Hid (objsOk 7 l = false) := by have := HD.out; rw [if_neg (fun x => hs253 x.2)] at this; exact this
          clear HD hl hs
          go_wp2_with (fail)
          refine (tellIsByte_any _ _).mono ?_
          rintro e w' ⟨rfl, rfl⟩
          rw [hb]
          clear hb
          go_wp2
          go_ret
          exact ⟨ret_bool HD2.out.symm, HK.out.alloc _⟩
      · have hb' : isByteB id = false := by simpa using hb
        have HD2 : Hid (objsOk 7 l = false) := by have := HD.out; rw [if_neg (fun x => hb x.1)] at this; exact this
        clear HD hl hs hb
        go_wp2_with (fail)
        refine (tellIsByte_any _ _).mono ?_
        rintro e w' ⟨rfl, rfl⟩
        rw [hb']
        clear hb'
        go_wp2
        go_ret
        exact ⟨ret_bool HD2.out.symm, HK.out.alloc _⟩
    · have HD2 : Hid (objsOk 7 l = true) := by
        have := HL.out
        rw [List.drop_eq_nil_of_le (by rw [← HN.out]; omega)] at this
        exact this
      clear hl hs
      go_wp2
      go_ret
      exact ⟨ret_bool HD2.out.symm, HK.out⟩
end Go.Proofs.Ytjiodnilhfpikaa
