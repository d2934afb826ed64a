/-
  The walks over package iden's helpers: a copy of objects, the place of an object, how much the device tells.
-/
import Derived.Test.YtjiodnilhfpikaaTellRight
set_option linter.unusedVariables false
set_option linter.unusedSimpArgs false
namespace Go.Proofs.Ytjiodnilhfpikaa
open Go.RowKit

theorem obInfo : (Try.prog.info? 36).map (fun i => (i.zero, i.size, i.bytes)) = some (some (.agg #[.int .i64 0, .string ByteArray.empty]), 2, 24) := by kernel_rfl
theorem obsCells_one (l : List Ob) : ∀ u ∈ obsCells l, u.oneCell' = true := by
  intro u hu
  simp only [obsCells, List.mem_flatMap] at hu
  obtain ⟨o, _, hu⟩ := hu
  simp only [obCells, List.mem_cons, List.not_mem_nil, or_false] at hu
  rcases hu with rfl | rfl <;> rfl

set_option maxRecDepth 100000 in
set_option maxHeartbeats 1000000 in
theorem cloneObs_any (A : Option Addr) (c : Nat) (l : List Ob) (w : World) (hl : Lies w A (obsCells l)) (hn : l.length ≤ 1000000) :
    Calls Try.prog 25 #[.slice A l.length c] w (GivesRow 36 2 l.length (obsCells l) w) := by
  rcases A with _ | a
  · have h0 : l = [] := by
      rcases l with _ | ⟨o, l⟩
      · rfl
      · obtain ⟨b, o', e, _⟩ := hl (by simp [obsCells, obCells])
        cases e
    subst h0
    clear hl hn
    have hnil : ∀ W : World, (binOp .eql 24 (.slice none 0 c) (.slice none 0 0)).run Try.prog W = .ok (.bool true) W := fun W => Lib.run_eql_slice_nil _ _ 36 _ _ _ _ _ Try.underlying24
    go_enter Try.func25, Try.ntmps25
    go_wp2
    go_ret
    exact ⟨_, rfl, own_nil _ _ _ _, Keeps.refl _ _⟩
  · have hnil : ∀ W : World, (binOp .eql 24 (.slice (some a) l.length c) (.slice none 0 0)).run Try.prog W = .ok (.bool false) W := fun W => Lib.run_eql_slice_nil _ _ 36 _ _ _ _ _ Try.underlying24
    have hk := (Keeps.refl Nope w).alloc (.cells #[] 36)
    have hown := World.ownsRow_lit (base := w.heap.size) (e := 36) (size := 2) w #[] 0 (Nat.le_refl _) (by simp [maxLen]) rfl
    go_enter Try.func25, Try.ntmps25
    go_wp2_with (at_builtin; refine wpList_app rfl _ _ 24 36 _ 2 24 rfl Try.underlying24 obInfo rfl (by omega) Nope w _ 0 [] (some a) l.length c (obsCells l) (by rfl) (by rfl) hown (hl.keeps hk) (obsCells_length l) (obsCells_one l) (by omega) (by omega) hk ?_; intro v1 w1 hown1 hk1 _ _)
    go_ret
    simp only [Nat.zero_add, List.nil_append] at hown1
    exact ⟨_, rfl, hown1, hk1⟩

set_option maxHeartbeats 1000000 in
theorem placeIs_any (o : Ob) (id : Int) (g : Nat) (w : World) (hg : w.cell? ⟨g, 0, none⟩ = some (.int .i64 id)) :
    Calls Try.prog 36 #[.agg #[.int .i64 o.1, .string o.2], .pointer (some ⟨g, 0, none⟩)] w fun e w' => e = .returned (.bool (o.1 == id)) ∧ Keeps Nope w w' := by
  obtain ⟨n, tx⟩ := o
  have hg2 : (w.alloc (.cells #[.int .i64 n, .string tx] 36)).cell? ⟨g, 0, none⟩ = some (.int .i64 id) := ((Keeps.refl Nope w).alloc _).cell (p := ⟨g, 0, none⟩) (World.block_lt_of_cell? w _ hg) (fun f => f) |>.trans hg
  go_enter Try.func36, Try.ntmps36
  go_wp2
  go_ret
  exact ⟨rfl, (Keeps.refl _ _).alloc _⟩

/-- The first place, from i on, of an object of which p holds; -1: there is none. -/
def obIndex (p : Ob → Bool) : Int → List Ob → Int
  | _, [] => -1
  | i, o :: l => if p o then i else obIndex p (i + 1) l
theorem obIndex_drop {p : Ob → Bool} {i : Int} {l : List Ob} {k : Nat} (hk : k < l.length) : obIndex p i (l.drop k) = if p l[k] then i else obIndex p (i + 1) (l.drop (k + 1)) := by
  rw [List.drop_eq_getElem_cons hk]; rfl

set_option maxRecDepth 100000 in
set_option maxHeartbeats 1000000 in
theorem indexPlace_any (A : Option Addr) (c : Nat) (l : List Ob) (id : Int) (g : Nat) (w : World) (hl : Lies w A (obsCells l)) (hn : l.length ≤ 1000000) (hg : w.cell? ⟨g, 0, none⟩ = some (.int .i64 id)) :
    Calls Try.prog 35 #[.slice A l.length c, .func (.func 36) #[] #[.pointer (some ⟨g, 0, none⟩)]] w fun e w' => e = .returned (.int .i64 (obIndex (fun o => o.1 == id) 0 l)) ∧ Keeps Nope w w' := by
  have hgl := World.block_lt_of_cell? w _ hg
  obtain ⟨nl, hnl⟩ : ∃ nl, nl = l.length := ⟨_, rfl⟩
  have HN := Lib.hid hnl
  rw [← hnl] at hn ⊢
  clear hnl
  have HG := Lib.hid hg
  clear hg
  go_enter Try.func35, Try.ntmps35
  go_wp2
  go_loopw [8] (fun i wr => ∃ (k : Nat), k ≤ nl ∧ Hid (obIndex (fun o => o.1 == id) 0 l = obIndex (fun o => o.1 == id) k (l.drop k)) ∧ i = .int .i64 (k : Int) ∧ Hid (Keeps Nope w wr)) (fun i _ => (nl - (intOf i)).toNat)
  case atStart => exact ⟨0, by omega, rfl, rfl, Keeps.refl _ _⟩
  case round =>
    obtain ⟨k, hk, HL, rfl, HK⟩ := hrel
    by_cases hlt : k < nl
    · have hk' : k < l.length := by rw [← HN.out]; exact hlt
      obtain ⟨b, o, rfl, c1, c2⟩ := (hl.keeps HK.out).ob hk'
      have HD := Lib.hid (HL.out.trans (obIndex_drop hk'))
      clear HL
      generalize l[k] = ob at *
      have HGW : Hid (wr.cell? ⟨g, 0, none⟩ = some (.int .i64 id)) := (HK.out.cell (p := ⟨g, 0, none⟩) hgl (fun f => f)).trans HG.out
      by_cases hb : (ob.1 == id) = true
      · have HD2 : Hid (obIndex (fun o => o.1 == id) 0 l = k) := by have := HD.out; rw [if_pos hb] at this; exact this
        clear HD hl
        go_wp2_with (fail)
        refine (placeIs_any ob id g _ HGW.out).mono ?_
        rintro e w' ⟨rfl, hk2⟩
        rw [hb]
        clear hb
        go_wp2
        go_ret
        exact ⟨ret_int HD2.out.symm, HK.out.trans hk2⟩
      · have HD2 : Hid (obIndex (fun o => o.1 == id) 0 l = obIndex (fun o => o.1 == id) (k + 1 : Nat) (l.drop (k + 1))) := by have := HD.out; rw [if_neg hb] at this; exact this
        have hb' : (ob.1 == id) = false := by simpa using hb
        clear HD hl hb
        go_wp2_with (fail)
        refine (placeIs_any ob id g _ HGW.out).mono ?_
        rintro e w' ⟨rfl, hk2⟩
        rw [hb']
        clear hb'
        go_wp2
        go_roundw
        case rel => exact ⟨k + 1, by omega, HD2, by go_num, HK.out.trans hk2⟩
        case measure => simp [intOf]; omega
    · have HD2 : Hid (obIndex (fun o => o.1 == id) 0 l = -1) := by
        have := HL.out
        rw [List.drop_eq_nil_of_le (by rw [← HN.out]; omega)] at this
        exact this
      clear hl
      go_wp2
      go_ret
      exact ⟨ret_int HD2.out.symm, HK.out⟩

set_option maxHeartbeats 1000000 in
theorem place_any (A : Option Addr) (c : Nat) (l : List Ob) (id : Int) (w : World) (hl : Lies w A (obsCells l)) (hn : l.length ≤ 1000000) :
    Calls Try.prog 23 #[.slice A l.length c, .int .i64 id] w fun e w' => e = .returned (.int .i64 (obIndex (fun o => o.1 == id) 0 l)) ∧ Keeps Nope w w' := by
  have hk := (Keeps.refl Nope w).alloc (.cells #[.int .i64 id] 3)
  go_enter Try.func23, Try.ntmps23
  go_wp2_with (fail)
  refine (indexPlace_any A c l id _ _ (hl.keeps hk) hn (by simp)).mono ?_
  rintro e w' ⟨rfl, hk2⟩
  go_wp2
  go_ret
  exact ⟨rfl, hk.trans hk2⟩
end Go.Proofs.Ytjiodnilhfpikaa
