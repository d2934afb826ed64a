/-
  The walk over iden.Answer for one object alone.
-/
import Derived.Test.YtjiodnilhfpikaaIdenD
set_option linter.unusedVariables false
set_option linter.unusedSimpArgs false
namespace Go.Proofs.Ytjiodnilhfpikaa
open Go.RowKit

set_option maxRecDepth 100000 in
set_option maxHeartbeats 4000000 in
theorem answer_none (A : Option Addr) (c : Nat) (l : List Ob) (ob : Int) (w : World) (hl : Lies w A (obsCells l)) (hn : l.length ≤ 1000000) (h0 : 0 ≤ ob) (h1 : ob ≤ 255) (hi : obIndex (fun o => o.1 == ob) 0 l = -1) :
    Calls Try.prog 10 #[.slice A l.length c, .int .i64 4, .int .i64 ob] w (AnswerNo 2 w) := by
  have hp := fun W (h : Lies W A (obsCells l)) => place_any A c l ob W h hn
  rw [hi] at hp
  have HP := Lib.hid hp
  have HL := Lib.hid hl
  clear hp hl hi
  go_enter Try.func10, Try.ntmps10
  go_wp2_with (fail)
  refine (level_any A c l _ (HL.out.keeps ((Keeps.refl _ _).alloc _)) hn).mono ?_
  rintro e w1 ⟨rfl, hk1⟩
  have HK := Lib.hid (((Keeps.refl Nope w).alloc _).trans hk1)
  have B6 := Lib.hid (blk_keeps (heap_alloc_new w _) hk1)
  have HL1 := Lib.hid (HL.out.keeps HK.out)
  have hg6 := heap_lt B6.out
  clear hk1 HL
  have HG := Lib.hid (Nat.le_refl w.heap.size)
  generalize hgg : w.heap.size = g6 at *
  replace HG : Hid (w.heap.size ≤ g6) := Nat.le_of_eq hgg
  clear hgg
  generalize levelL l = lv at *
  go_wp2_with (fail)
  refine (HP.out _ (HL1.out.keeps ((Keeps.refl _ _).alloc _))).mono ?_
  rintro e w2 ⟨rfl, hk2⟩
  have B6' := blk_keeps (blk_keeps B6.out ((Keeps.refl _ _).alloc _)) hk2
  have HK2 := Lib.hid ((HK.out.alloc _).trans hk2)
  clear hk2 HL1 B6
  go_wp2_with ((refine wpList_store_row rfl 32 _ _ rfl g6 (tcells 0 0 0 false 0 (.slice none 0 0)) rfl rfl 32 _ B6' tellSize rfl (tcells_one _ _ _ _ _ _ rfl) ?_))
  have hb := (cells_at (setRow_heap w2 g6 _ (tcells 0 0 0 false 0 (.slice none 0 0)) _ _ B6')).1
  refine bodyPost_ret (v := .tuple #[(.agg #[.int .i64 0, .int .i64 0, (.slice none 0 0), (.slice none 0 0), .int .i64 0, .int .i64 0, .int .u16 0, .int .u16 0, .int .u16 0, .int .i64 0, .int .i64 0, .bool false, .int .i64 0, (.slice none 0 0)]), .int .i64 2]) (by simp [results, Try.results10, go_sem, hb]) rfl ⟨rfl, ?_⟩
  exact HK2.out.setRow (.inl HG.out) _

set_option maxRecDepth 100000 in
set_option maxHeartbeats 4000000 in
theorem answer_alone (A : Option Addr) (c : Nat) (l : List Ob) (ob : Int) (w : World) (hl : Lies w A (obsCells l)) (hn : l.length ≤ 1000000) (h0 : 0 ≤ ob) (h1 : ob ≤ 255) (i : Nat) (obj : Ob) (hobj : l[i]? = some obj) (hi : obIndex (fun o => o.1 == ob) 0 l = i) :
    Calls Try.prog 10 #[.slice A l.length c, .int .i64 4, .int .i64 ob] w (AnswerYes 4 (levelL l) false 0 [obj] w) := by
  have hp := fun W (h : Lies W A (obsCells l)) => place_any A c l ob W h hn
  rw [hi] at hp
  have HP := Lib.hid hp
  have HL := Lib.hid hl
  obtain ⟨hil, hoe⟩ := List.getElem?_eq_some_iff.1 hobj
  have HOE := Lib.hid hoe
  clear hp hl hi hoe hobj
  obtain ⟨nl, hnl⟩ : ∃ nl, nl = l.length := ⟨_, rfl⟩
  have hin : i < nl := by rw [hnl]; exact hil
  go_enter Try.func10, Try.ntmps10
  go_wp2_with (fail)
  refine (level_any A c l _ (HL.out.keeps ((Keeps.refl _ _).alloc _)) hn).mono ?_
  rintro e w1 ⟨rfl, hk1⟩
  have HK := Lib.hid (((Keeps.refl Nope w).alloc _).trans hk1)
  have B6 := Lib.hid (blk_keeps (heap_alloc_new w _) hk1)
  have HL1 := Lib.hid (HL.out.keeps HK.out)
  have hg6 := heap_lt B6.out
  clear hk1 HL
  have HG := Lib.hid (Nat.le_refl w.heap.size)
  generalize hgg : w.heap.size = g6 at *
  replace HG : Hid (w.heap.size ≤ g6) := Nat.le_of_eq hgg
  clear hgg
  generalize levelL l = lv at *
  go_wp2_with (fail)
  refine (HP.out _ (HL1.out.keeps ((Keeps.refl _ _).alloc _))).mono ?_
  rintro e w2 ⟨rfl, hk2⟩
  have B6' := blk_keeps (blk_keeps B6.out ((Keeps.refl _ _).alloc _)) hk2
  have B8' := blk_keeps (heap_alloc_new w1 _) hk2
  have HK2 := Lib.hid ((HK.out.alloc _).trans hk2)
  have hne : g6 ≠ w1.heap.size := by omega
  have HG8 : Hid (w.heap.size ≤ w1.heap.size) := HK.out.size
  obtain ⟨b, o, rfl, c1, c2⟩ := (HL1.out.keeps (((Keeps.refl _ _).alloc _).trans hk2)).ob hil
  clear hk2 HL1 B6 HP
  generalize w1.heap.size = g8 at *
  rw [HOE.out] at c1 c2
  clear HOE
  obtain ⟨id, tx⟩ := obj
  dsimp only at *
  rw [← hnl] at *
  clear hnl hil
  have B6a := (heap_setCell_other w2 ⟨g8, 13, none⟩ g6 (.slice (some ⟨w2.heap.size, 0, none⟩) 1 1) hne).trans B6'
  have B8a := heap_setCell_same w2 g8 13 _ _ (.slice (some ⟨w2.heap.size, 0, none⟩) 1 1) B8'
  have hsz : (w2.setCell ⟨g8, 13, none⟩ (.slice (some ⟨w2.heap.size, 0, none⟩) 1 1)).heap.size = w2.heap.size := by simp [World.setCell]
  have B6b := (Below.heap_alloc (w2.setCell ⟨g8, 13, none⟩ (.slice (some ⟨w2.heap.size, 0, none⟩) 1 1)) (.cells #[.int .i64 id, .string tx] 36) _ (heap_lt B6a)).trans B6a
  have B8b := (Below.heap_alloc (w2.setCell ⟨g8, 13, none⟩ (.slice (some ⟨w2.heap.size, 0, none⟩) 1 1)) (.cells #[.int .i64 id, .string tx] 36) _ (heap_lt B8a)).trans B8a
  have hown := World.ownsRow_lit (base := w.heap.size) (e := 36) (size := 2) (w2.setCell ⟨g8, 13, none⟩ (.slice (some ⟨w2.heap.size, 0, none⟩) 1 1)) #[.int .i64 id, .string tx] 1 (by rw [hsz]; exact HK2.out.size) (by simp [maxLen]) rfl
  rw [hsz] at hown
  have HOWN := Lib.hid hown
  have HK3 := Lib.hid ((HK2.out.setCell (p := ⟨g8, 13, none⟩) (.inl HG8.out) (.slice (some ⟨w2.heap.size, 0, none⟩) 1 1)).alloc (.cells #[.int .i64 id, .string tx] 36))
  have HG6 : Hid (g6 < w2.heap.size) := heap_lt B6'
  have h8lt := heap_lt B8'
  clear B6a B8a hown hsz
  obtain ⟨c8, f8⟩ := cells_at B8'
  clear B6' B8'
  go_wp2_with (first | (refine wpList_load_row rfl 32 _ rfl g8 rfl 32 _ _ _ B8b Try.underlying32 rfl tellSize ?_) | (refine wpList_store_row rfl 32 _ _ rfl g6 (tcells 43 4 lv false 0 (.slice (some ⟨w2.heap.size, 0, none⟩) 1 1)) rfl rfl 32 _ B6b tellSize rfl (tcells_one _ _ _ _ _ _ rfl) ?_))
  have hb := (cells_at (setRow_heap _ g6 _ (tcells 43 4 lv false 0 (.slice (some ⟨w2.heap.size, 0, none⟩) 1 1)) _ _ B6b)).1
  refine bodyPost_ret (v := .tuple #[(.agg #[.int .i64 43, .int .i64 0, (.slice none 0 0), (.slice none 0 0), .int .i64 0, .int .i64 0, .int .u16 0, .int .u16 0, .int .u16 0, .int .i64 4, .int .i64 lv, .bool false, .int .i64 0, (.slice (some ⟨w2.heap.size, 0, none⟩) 1 1)]), .int .i64 0]) (by simp [results, Try.results10, go_sem, hb]) rfl ⟨_, rfl, ?_, ?_⟩
  · refine own_keeps HOWN.out ((Keeps.refl (Only g6) _).setRow (.inr (show Only g6 g6 from rfl)) _) (fun g hg e => ?_)
    have h1 : w2.heap.size = g := by simpa [Value.ownBlock] using hg
    have h2 : g = g6 := e
    have h3 := HG6.out
    omega
  · exact HK3.out.setRow (.inl HG.out) _
end Go.Proofs.Ytjiodnilhfpikaa
